/- Layer 35 (multicast): hop. · Layer 35 (multicast): whole arrays of 16 numbers, read and written as rows. · Layer 35 (multicast): the hops of a round, plain. · Layer 35 (multicast): the iterator over the first hops. · Layer 35 (multicast): earliest, plain. · Security: the words of a string, one by one. · Security: the tag of a string under a key. · Security: the checksum of a string, and its frame. · Security: block.Encode; the numbers of a bundle. -/
import Derived.BigRegion
import Derived.Laws.Rows
import Derived.Deep.WholeRow
import Derived.Deep.RegionHeld3
import Derived.Laws.CopyRow
import Derived.RangeFuncLeaves
import Derived.Test.YtemkpimngbbpkaaGreatQm03
import Derived.Test.YtemkpimngbbpkaaGreatQm04
import Derived.Test.YtemkpimngbbpkaaGreatQm05
import Derived.Test.YtemkpimngbbpkaaGreatQm13
import Derived.Test.YtemkpimngbbpkaaGreatQm17
import Derived.Test.YtemkpimngbbpkaaGreatQm20
import Derived.Test.YtemkpimngbbpkaaGreatQm21
namespace Go.Proofs.YtemkpimngbbpkaaGreat
set_option linter.unusedVariables false
set_option linter.unusedSimpArgs false
set_option linter.unusedVariables false
set_option linter.unusedSimpArgs false
open Go.RowKit Go.Shelf
attribute [local go_sem] Oper.semAt_some

def hpAt (c : Con) (i : Int) (n b : Int) : Hp := ⟨i, b, b + c.dur n, b + c.dur n + c.rng⟩
def Pln.mhop (p : Pln) (l : List Bk) (q : Req) (i : Nat) (t : Int) : Option Hp :=
  match fitL ((gc p.cons i).dur q.size) (freeL (gc p.cons i) l i t) with
  | none => none
  | some b => if b + (gc p.cons i).dur q.size + (gc p.cons i).rng ≤ q.dead then some (hpAt (gc p.cons i) i q.size b) else none
theorem mhop_some {p : Pln} {l : List Bk} {q : Req} {i : Nat} {t : Int} {h : Hp} (e : p.mhop l q i t = some h) :
    ∃ b, fitL ((gc p.cons i).dur q.size) (freeL (gc p.cons i) l i t) = some b ∧ h = hpAt (gc p.cons i) i q.size b ∧ h.arr ≤ q.dead := by
  unfold Pln.mhop at e
  split at e
  · cases e
  · rename_i b hb
    split at e
    · rename_i hd
      injection e with e
      subst e
      exact ⟨b, hb, rfl, hd⟩
    · cases e

set_option maxRecDepth 100000 in
set_option maxHeartbeats 8000000 in
theorem mhop_any (Aq : Option Addr) (cq : Nat) (Ac : Option Addr) (cc : Nat) (p : Pln) (Al : Option Addr) (cl : Nat) (l : List Bk) (Ah : Option Addr) (nh ch : Nat) (q : Req) (i : Nat) (t : Int) (w : World) (h : PlnRd w Aq cq Ac cc p) (hl : Rd EBk w Al l) (h0 : p.bkChk l = 0) (hf : fineR p q = true) (hi : i < p.cons.length) :
    Calls Tryz.prog 244 #[.agg #[.slice Aq p.quo.length cq, .slice Ac p.cons.length cc, .slice Al l.length cl, .slice Ah nh ch], q.val, .int .i64 i, .int .i64 t] w fun e w' => (∃ x : Hp, e = .returned (.tuple #[x.val, .bool (p.mhop l q i t).isSome]) ∧ ∀ y, p.mhop l q i t = some y → x = y) ∧ Ext w w' := by
  obtain ⟨W1, hW1, hB1, hk1, hkq, hl1, hlq⟩ := box2 w #[.slice Aq p.quo.length cq, .slice Ac p.cons.length cc, .slice Al l.length cl, .slice Ah nh ch] q.cells 83 85
  simp only [Req.cells] at hW1 hkq
  obtain ⟨W2, hW2, hB2, hk2, hl2⟩ := box1 W1 #[.int .i64 0, .int .i64 0, .int .i64 0, .int .i64 0] 94
  have hf2 := fineR_of hf
  have hqo := hf2.2
  simp only [Req.okB, decide_eq_true_eq] at hqo
  have hn : 1 ≤ q.size ∧ q.size ≤ 65536 := by omega
  have hii : 0 ≤ (i : Int) ∧ (i : Int) < p.cons.length := by omega
  have hE2 := hB1.trans hB2
  have hfi := fun w h hl => Fit_any Aq cq Ac cc p Al cl l i t q.size w h hl h0 hii hn
  have hin := bkIn_of h0 (i : Int)
  have hok := Pln.ok_of hf2.1
  have hgc : gc p.cons (i : Int) = p.cons[i] := gc_get (i := (i : Int)) (by omega)
  have hcok := (hok.con _ (List.getElem_mem hi)).1
  rw [← hgc] at hcok
  have hrd := h.ext hE2
  have hl3 := hl.ext hE2
  have s0 := (hk1.ext hB2).cell
  have s1 := (hkq.ext hB2).cell
  have s2 := (hk1.ext hB2).lt
  have s3 := (hkq.ext hB2).lt
  have hho := fun b w h hb => tHop_any Aq cq Ac cc p q i b w h hf hii hb
  obtain ⟨c, hc⟩ : ∃ c, gc p.cons (i : Int) = c := ⟨_, rfl⟩
  have Hc := Lib.hid hc
  rw [hc] at hfi hin hcok hho
  cases hF : fitL (c.dur q.size) (freeL c l i t) with
  | none =>
    rw [hF] at hfi
    have HV := Lib.hid (show p.mhop l q i t = none by unfold Pln.mhop; rw [Hc.out, hF])
    clear hF hcok hok hf2 hqo hgc hc hin hho
    simp only [fitV] at hfi
    unfold Pln.val at hfi
    unfold Req.val
    go_enter Tryz.func244, Tryz.ntmps244
    go_wp2_with fail
    clear hW1 hW2
    refine (hfi _ hrd hl3).mono ?_
    clear hfi
    rintro e w4 ⟨rfl, hb4⟩
    have hEE := hE2.trans hb4
    have hk4 := hk2.ext hb4
    have hc4 := hk4.cell
    have hf4 := hk4.frozen
    have hl4 := hk4.lt
    obtain ⟨w7, hw7, hz7, hE7⟩ : ∃ w7, w4.setCells W1.heap.size 0 [.int .i64 0, .int .i64 0, .int .i64 0, .int .i64 0] = w7 ∧ Blk w7 W1.heap.size 94 #[.int .i64 0, .int .i64 0, .int .i64 0, .int .i64 0] ∧ Ext w w7 :=
      ⟨_, rfl, hk4.setCells_ [.int .i64 0, .int .i64 0, .int .i64 0, .int .i64 0] 0, ext_setCells hEE hB1.size 0 _⟩
    simp only [World.setCells, Nat.zero_add, Nat.reduceAdd] at hw7
    go_wp2
    have hc7 := hz7.cell
    refine bodyPost_ret (v := .tuple #[.agg #[.int .i64 0, .int .i64 0, .int .i64 0, .int .i64 0], .bool false]) (by rw [results_cell_tmp rfl]; simp [asAddr, Result.andThen, hc7, go_sem]) rfl ?_
    exact ⟨⟨⟨0, 0, 0, 0⟩, by rw [HV.out]; rfl, by rw [HV.out]; intro y hy; cases hy⟩, hE7⟩
  | some b =>
    rw [hF] at hfi
    have hge := fitL_ge hin hF
    have hho1 := fun w h => hho b w h (by omega)
    have dbd := Con.dur_bd hcok hn.1 hn.2
    have hst0 := hcok.st0
    have hen1 := hcok.en1
    have hrg0 := hcok.rng0
    have HV := Lib.hid (show p.mhop l q i t = if b + c.dur q.size + c.rng ≤ q.dead then some ⟨i, b, b + c.dur q.size, b + c.dur q.size + c.rng⟩ else none by unfold Pln.mhop; rw [Hc.out, hF]; rfl)
    clear hF hcok hok hf2 hqo hgc hc hin hho
    simp only [fitV] at hfi
    unfold Pln.val at hfi hho1
    unfold Req.val at hho1 ⊢
    generalize c.dur q.size = d at *
    go_enter Tryz.func244, Tryz.ntmps244
    go_wp2_with fail
    clear hW1 hW2
    refine (hfi _ hrd hl3).mono ?_
    clear hfi
    rintro e w4 ⟨rfl, hb4⟩
    clear s0 s1 s2 s3
    have kt := (hk1.ext hB2).ext hb4
    have kq := (hkq.ext hB2).ext hb4
    have s0 := kt.cell
    have s1 := kq.cell
    have s2 := kt.lt
    have s3 := kq.lt
    go_wp2_with fail
    refine (hho1 _ (hrd.ext hb4)).mono ?_
    clear hho1
    rintro e w5 ⟨rfl, hb5⟩
    clear s0 s1 s2 s3
    obtain ⟨W6, hW6, hB6, hk6, hl6⟩ := box1 w5 #[.int .i64 i, .int .i64 b, .int .i64 (b + d), .int .i64 (b + d + c.rng)] 94
    have kq6 := (kq.ext hb5).ext hB6
    have s0 := hk6.cell
    have s1 := kq6.cell
    have s2 := hk6.lt
    have s3 := kq6.lt
    have hEE := ((hE2.trans hb4).trans hb5).trans hB6
    have hk4 := ((hk2.ext hb4).ext hb5).ext hB6
    have hc4 := hk4.cell
    have hf4 := hk4.frozen
    have hl4 := hk4.lt
    have g1 := hB2.size
    have g2 := hb4.size
    have g3 := hb5.size
    have hne1 : ¬ W1.heap.size = w5.heap.size := by omega
    have hne2 : ¬ W1.heap.size = w.heap.size + 1 := by omega
    have hne3 : ¬ w5.heap.size = W1.heap.size := by omega
    have hne4 : ¬ w.heap.size + 1 = W1.heap.size := by omega
    go_wp2_with fail
    clear hW6
    by_cases hdl : b + d + c.rng ≤ q.dead
    · have HM := Lib.hid (HV.out.trans (if_pos hdl))
      go_region
      obtain ⟨w7, hw7, hz7, hE7⟩ : ∃ w7, (W6.setCells W1.heap.size 0 [.int .i64 i, .int .i64 b, .int .i64 (b + d), .int .i64 (b + d + c.rng)]).drew = w7 ∧ Blk w7 W1.heap.size 94 #[.int .i64 i, .int .i64 b, .int .i64 (b + d), .int .i64 (b + d + c.rng)] ∧ Ext w w7 :=
        ⟨_, rfl, hk4.setCells_ [.int .i64 i, .int .i64 b, .int .i64 (b + d), .int .i64 (b + d + c.rng)] 0, (ext_setCells hEE hB1.size 0 _).drew⟩
      simp only [World.setCells, Nat.zero_add, Nat.reduceAdd] at hw7
      rw [hw7]
      clear hw7
      go_wp2
      have hc7 := hz7.cell
      refine bodyPost_ret (v := .tuple #[.agg #[.int .i64 i, .int .i64 b, .int .i64 (b + d), .int .i64 (b + d + c.rng)], .bool true]) (by rw [results_cell_tmp rfl]; simp [asAddr, Result.andThen, hc7, go_sem]) rfl ?_
      exact ⟨⟨⟨i, b, b + d, b + d + c.rng⟩, by rw [HM.out]; rfl, by rw [HM.out]; intro y hy; injection hy⟩, hE7⟩
    · have HM := Lib.hid (HV.out.trans (if_neg hdl))
      have ddl : decide (b + d + c.rng ≤ q.dead) = false := decide_eq_false hdl
      go_region
      obtain ⟨w7, hw7, hz7, hE7⟩ : ∃ w7, (W6.setCells W1.heap.size 0 [.int .i64 i, .int .i64 b, .int .i64 (b + d), .int .i64 (b + d + c.rng)]).drew = w7 ∧ Blk w7 W1.heap.size 94 #[.int .i64 i, .int .i64 b, .int .i64 (b + d), .int .i64 (b + d + c.rng)] ∧ Ext w w7 :=
        ⟨_, rfl, hk4.setCells_ [.int .i64 i, .int .i64 b, .int .i64 (b + d), .int .i64 (b + d + c.rng)] 0, (ext_setCells hEE hB1.size 0 _).drew⟩
      simp only [World.setCells, Nat.zero_add, Nat.reduceAdd] at hw7
      rw [hw7]
      clear hw7
      go_wp2
      have hc7 := hz7.cell
      refine bodyPost_ret (v := .tuple #[.agg #[.int .i64 i, .int .i64 b, .int .i64 (b + d), .int .i64 (b + d + c.rng)], .bool false]) (by rw [results_cell_tmp rfl]; simp [asAddr, Result.andThen, hc7, go_sem]) rfl ?_
      exact ⟨⟨⟨i, b, b + d, b + d + c.rng⟩, by rw [HM.out]; rfl, by rw [HM.out]; intro y hy; cases hy⟩, hE7⟩

end Go.Proofs.YtemkpimngbbpkaaGreat

namespace Go.Proofs.YtemkpimngbbpkaaGreat
set_option linter.unusedVariables false
set_option linter.unusedSimpArgs false
set_option linter.unusedVariables false
open Go.RowKit

theorem info_times : (Tryz.prog.info? 175).map (fun i => (i.zero, i.size)) = some (some (.agg #[.int .i64 0, .int .i64 0, .int .i64 0, .int .i64 0, .int .i64 0, .int .i64 0, .int .i64 0, .int .i64 0, .int .i64 0, .int .i64 0, .int .i64 0, .int .i64 0, .int .i64 0, .int .i64 0, .int .i64 0, .int .i64 0]), 16) := by kernel_rfl
theorem size_times : (Tryz.prog.info? 175).map (·.size) = some 16 := (zero_of_info (P := Tryz.prog) info_times).2
theorem arrV_one (T : List Int) : (arrV T).all (·.oneCell') = true := by
  rw [Array.all_eq_true_iff_forall_mem]
  intro v hv
  simp [arrV] at hv
  obtain ⟨x, _, rfl⟩ := hv
  rfl
theorem arrV_setRow {w : World} {g : Nat} {t : TypeId} {cs : Array Value} (h : Blk w g t cs) (ds : Array Value) : Blk (w.setRow g ds) g t ds := setRow_heap w g cs ds t (0, 0) h
theorem grown_setRow (w : World) (g : Nat) (ds : Array Value) : w.grownBy (w.setRow g ds) (some g) :=
  ⟨rfl, rfl, rfl, by simp, fun k _ hk => setRow_other w g k ds (fun e => hk (by rw [e]))⟩

section
variable {ops : Array Oper} {rest : List Oper} {o : Oper} {a : Act} {w : World} {Q : Exit → Act → World → Prop} {x y : Operand} {g : Nat} {T T' : List Int}
theorem wpList_load16 (ho : o.op = .load 175 x) (hgd : o.guard = none) (hx : a.eval x = .pointer (some ⟨g, 0, none⟩)) (hg : Blk w g 175 (arrV T)) (hT : T.length = 16)
    (h : wpList Tryz.prog ops Q rest (a.put o.dst (.agg (arrV T))) w) : wpList Tryz.prog ops Q (o :: rest) a w :=
  wpList_load_row hgd 175 x ho g hx 175 (arrV T) (0, 0) _ hg Tryz.underlying175 rfl (by rw [arrV_size, hT]; exact size_times) h
theorem wpList_store16 (ho : o.op = .store 175 x y) (hgd : o.guard = none) (hx : a.eval x = .pointer (some ⟨g, 0, none⟩)) (hy : a.eval y = .agg (arrV T')) (hg : Blk w g 175 (arrV T)) (hT : T.length = 16) (hT' : T'.length = 16)
    (h : ∀ W', w.grownBy W' (some g) → Blk W' g 175 (arrV T') → wpList Tryz.prog ops Q rest (a.put o.dst undef) W') : wpList Tryz.prog ops Q (o :: rest) a w :=
  wpList_store_row hgd 175 x y ho g (arrV T') hx hy 175 (arrV T) hg (by rw [arrV_size, hT']; exact size_times) (by rw [arrV_size, arrV_size, hT, hT']) (arrV_one _)
    (h _ (grown_setRow w g _) (arrV_setRow hg _))
theorem wpList_fresh16 {c : Array Value} (ho : o.op = .store 175 x y) (hgd : o.guard = none) (hx : a.eval x = .pointer (some ⟨w.heap.size, 0, none⟩)) (hy : a.eval y = .agg (arrV T)) (hc : c.size = 16) (hT : T.length = 16)
    (h : ∀ W', Ext w W' → Blk W' w.heap.size 175 (arrV T) → W'.heap.size = w.heap.size + 1 → wpList Tryz.prog ops Q rest (a.put o.dst undef) W') : wpList Tryz.prog ops Q (o :: rest) a (w.alloc (.cells c 175)) :=
  wpList_store_row hgd 175 x y ho w.heap.size (arrV T) hx hy 175 c (heap_alloc_last w _) (by rw [arrV_size, hT]; exact size_times) (by rw [arrV_size, hc, hT]) (arrV_one _)
    (by rw [World.setRow_alloc_new]; exact h _ ((Ext.refl _).alloc _) (Blk.new _ _ _) (by simp))
end
theorem results16' {fn : Func} {p : Tmp} (h : fn.results = #[.cell p 175]) {tmps : Array Value} {w : World} {g : Nat} {T : List Int} (hp : tmps.getD p undef = .pointer (some ⟨g, 0, none⟩)) (hg : Blk w g 175 (arrV T)) (hT : T.length = 16) :
    (results fn tmps).run Tryz.prog w = .ok (.agg (arrV T)) w := by
  rw [results_cell1 h, hp]
  have := run_loadVar_row w g 175 175 (arrV T) (0, 0) _ hg Tryz.underlying175 rfl (by rw [arrV_size, hT]; exact size_times)
  simp [asAddr, Result.andThen, this]

end Go.Proofs.YtemkpimngbbpkaaGreat

namespace Go.Proofs.YtemkpimngbbpkaaGreat
set_option linter.unusedVariables false
set_option linter.unusedSimpArgs false
set_option linter.unusedVariables false
open Go.RowKit

def Pln.hopI (p : Pln) (l : List Bk) (q : Req) (tree at_ : List Int) (i : Nat) : Option Hp :=
  if gi at_ (gc p.cons i).src < 0 ∨ 0 ≤ gi tree (gc p.cons i).dst then none else p.mhop l q i (gi at_ (gc p.cons i).src)
def Pln.hopsK (p : Pln) (l : List Bk) (q : Req) (tree at_ : List Int) : Nat → List Hp
  | 0 => []
  | k + 1 => match p.hopI l q tree at_ k with
    | some h => p.hopsK l q tree at_ k ++ [h]
    | none => p.hopsK l q tree at_ k
def Pln.hopsL (p : Pln) (l : List Bk) (q : Req) (tree at_ : List Int) : List Hp := p.hopsK l q tree at_ p.cons.length
def Pln.HopP (p : Pln) (l : List Bk) (q : Req) (tree at_ : List Int) (h : Hp) : Prop := ∃ i, i < p.cons.length ∧ p.hopI l q tree at_ i = some h
theorem hopsK_mem {p : Pln} {l : List Bk} {q : Req} {tree at_ : List Int} {h : Hp} : ∀ {k : Nat}, k ≤ p.cons.length → h ∈ p.hopsK l q tree at_ k → p.HopP l q tree at_ h
  | 0, _, hm => by cases hm
  | k + 1, hk, hm => by
    unfold Pln.hopsK at hm
    split at hm
    · rename_i h' e
      rw [List.mem_append] at hm
      rcases hm with hm | hm
      · exact hopsK_mem (by omega) hm
      · simp at hm; subst hm; exact ⟨k, by omega, e⟩
    · exact hopsK_mem (by omega) hm
theorem hopsK_of {p : Pln} {l : List Bk} {q : Req} {tree at_ : List Int} {h : Hp} {i : Nat} (e : p.hopI l q tree at_ i = some h) : ∀ {k : Nat}, i < k → h ∈ p.hopsK l q tree at_ k
  | 0, hk => by omega
  | k + 1, hk => by
    unfold Pln.hopsK
    by_cases h1 : i = k
    · subst h1; rw [e]; simp
    · have := hopsK_of e (k := k) (by omega)
      split
      · simp [this]
      · exact this
theorem hopsK_len {p : Pln} {l : List Bk} {q : Req} {tree at_ : List Int} : ∀ k : Nat, (p.hopsK l q tree at_ k).length ≤ k
  | 0 => Nat.le_refl _
  | k + 1 => by
    unfold Pln.hopsK
    have := hopsK_len (p := p) (l := l) (q := q) (tree := tree) (at_ := at_) k
    split
    · simp; omega
    · omega
structure HopF (p : Pln) (l : List Bk) (q : Req) (tree at_ : List Int) (h : Hp) (i : Nat) : Prop where
  lt : i < p.cons.length
  con : h.con = i
  src : 0 ≤ gi at_ (gc p.cons i).src
  dst : gi tree (gc p.cons i).dst < 0
  fit : ∃ b, fitL ((gc p.cons i).dur q.size) (freeL (gc p.cons i) l i (gi at_ (gc p.cons i).src)) = some b ∧ h = hpAt (gc p.cons i) i q.size b
  dead : h.arr ≤ q.dead
theorem HopP.facts {p : Pln} {l : List Bk} {q : Req} {tree at_ : List Int} {h : Hp} (hp : p.HopP l q tree at_ h) : ∃ i, HopF p l q tree at_ h i := by
  obtain ⟨i, hi, e⟩ := hp
  unfold Pln.hopI at e
  split at e
  · cases e
  · rename_i hn
    obtain ⟨b, hb, hh, hd⟩ := mhop_some e
    exact ⟨i, hi, by rw [hh]; rfl, by omega, by omega, ⟨b, hb, hh⟩, hd⟩
theorem HopF.late {p : Pln} {l : List Bk} {q : Req} {tree at_ : List Int} {h : Hp} {i : Nat} (f : HopF p l q tree at_ h i) (h0 : p.bkChk l = 0) (hq : 1 ≤ q.size ∧ q.size ≤ 65536) :
    gi at_ (gc p.cons i).src ≤ h.beg ∧ (gc p.cons i).st ≤ h.beg ∧ h.en = h.beg + (gc p.cons i).dur q.size ∧ h.arr = h.en + (gc p.cons i).rng ∧ h.en ≤ (gc p.cons i).en ∧ h.beg < h.en ∧ h.en < h.arr ∧ 0 ≤ h.beg ∧ h.arr ≤ 1099511627776 := by
  obtain ⟨b, hb, hh⟩ := f.fit
  have hin := bkIn_of h0 (i : Int)
  have hge := fitL_ge hin hb
  have hok := Pln.ok_of (Pln.bkChk_ok h0).1
  have hgc : gc p.cons (i : Int) = p.cons[i]'f.lt := gc_get (i := (i : Int)) (by have := f.lt; omega)
  have hc := (hok.con _ (List.getElem_mem f.lt)).1
  rw [← hgc] at hc
  have hd := Con.dur_bd hc hq.1 hq.2
  have h1 := hc.st0
  have h2 := hc.en1
  have h3 := hc.rng0
  subst hh
  refine ⟨?_, ?_, rfl, rfl, ?_, ?_, ?_, ?_, ?_⟩ <;> simp only [hpAt] <;> omega

end Go.Proofs.YtemkpimngbbpkaaGreat

namespace Go.Proofs.YtemkpimngbbpkaaGreat
set_option linter.unusedVariables false
set_option linter.unusedSimpArgs false
set_option linter.unusedVariables false
set_option linter.unusedSimpArgs false
open Go.RowKit Go.Shelf
attribute [local go_sem] Oper.semAt_some

abbrev HopM (p : Pln) (l : List Bk) (q : Req) (tree at_ : List Int) := { h : Hp // p.HopP l q tree at_ h }
def unM {p : Pln} {l : List Bk} {q : Req} {tree at_ : List Int} (ys : List (HopM p l q tree at_)) : List Hp := ys.map (·.1)
theorem unM_snoc {p : Pln} {l : List Bk} {q : Req} {tree at_ : List Int} (ys : List (HopM p l q tree at_)) (x : HopM p l q tree at_) : unM (ys ++ [x]) = unM ys ++ [x.1] := by simp [unM]
theorem unM_len {p : Pln} {l : List Bk} {q : Req} {tree at_ : List Int} (ys : List (HopM p l q tree at_)) : (unM ys).length = ys.length := by simp [unM]
def hopM {p : Pln} {l : List Bk} {q : Req} {tree at_ : List Int} (x : HopM p l q tree at_) : Array Value := #[.agg #[.int .i64 x.1.con, .int .i64 x.1.beg, .int .i64 x.1.en, .int .i64 x.1.arr]]
structure HopC35 (w0 W : World) (Bt Ba Br Bq n₁ g g2 : Nat) (Aq : Option Addr) (cq : Nat) (Ac : Option Addr) (cc : Nat) (p : Pln) (Al : Option Addr) (cl : Nat) (l : List Bk) (Ah : Option Addr) (nh ch : Nat) (q : Req) (tree at_ : List Int) : Prop where
  rd : PlnRd w0 Aq cq Ac cc p
  bk : Rd EBk w0 Al l
  ok : p.bkChk l = 0
  fine : fineR p q = true
  tl : tree.length = 16
  al : at_.length = 16
  ext : Ext w0 W
  n0 : w0.heap.size ≤ n₁
  g0 : w0.heap.size ≤ g
  g20 : w0.heap.size ≤ g2
  n1 : n₁ ≤ W.heap.size
  kt : Blk W Bt 83 #[.slice Aq p.quo.length cq, .slice Ac p.cons.length cc, .slice Al l.length cl, .slice Ah nh ch]
  ka : Blk W Ba 175 (arrV at_)
  kr : Blk W Br 175 (arrV tree)
  kq : Blk W Bq 85 #[.int .i64 q.src, .int .i64 q.dst, .int .i64 q.size, .int .i64 q.ready, .int .i64 q.dead, .int .i64 q.prio, .bool q.cust]
  bt : Bt < n₁ ∧ Bt ≠ g ∧ Bt ≠ g2
  ba : Ba < n₁ ∧ Ba ≠ g ∧ Ba ≠ g2
  br : Br < n₁ ∧ Br ≠ g ∧ Br ≠ g2
  bq : Bq < n₁ ∧ Bq ≠ g ∧ Bq ≠ g2

set_option maxRecDepth 100000 in
set_option maxHeartbeats 4000000 in
theorem mhops_iter (li Bt Ba Br Bq n₁ g g2 : Nat) (Aq : Option Addr) (cq : Nat) (Ac : Option Addr) (cc : Nat) (p : Pln) (Al : Option Addr) (cl : Nat) (l : List Bk) (Ah : Option Addr) (nh ch : Nat) (q : Req) (tree at_ : List Int) (w0 W : World)
    (C : HopC35 w0 W Bt Ba Br Bq n₁ g g2 Aq cq Ac cc p Al cl l Ah nh ch q tree at_)
    (J Jx : List (HopM p l q tree at_) → World → Prop) (hJ : AbidesFrom W.heap.size J)
    (hY : ∀ pre x W, J pre W → pre.length < 65 → YieldAt Fence.wide 3 Tryz.prog li (hopM x) W fun e W' =>
      (e = .returned (.bool true) ∧ J (pre ++ [x]) W' ∧ KpY n₁ g g2 W W') ∨ (e = .returned (.bool false) ∧ Jx (pre ++ [x]) W'))
    (hj : J [] W) :
    CallsIn Fence.wide 4 Tryz.prog 243 #[.func (.yield li) #[] #[], .pointer (some ⟨Bt, 0, none⟩), .pointer (some ⟨Ba, 0, none⟩), .pointer (some ⟨Br, 0, none⟩), .pointer (some ⟨Bq, 0, none⟩)] W fun e W' => (∃ v, e = .returned v) ∧
      ((∃ ys, unM ys = p.hopsL l q tree at_ ∧ J ys W') ∨ (∃ pre : List (HopM p l q tree at_), True ∧ Jx pre W')) := by
  obtain ⟨h, hbk, h0, hf, htl, hal, hE0, hn0, hg0, hg20, hn1, kt, ka, kr, kq, bt, ba, br, bq⟩ := C
  have hc := kt.cell
  have hok := Pln.ok_of (Pln.bkChk_ok h0).1
  have hm64 := hok.m64
  have hn16 := hok.n16
  have H0 := Lib.hid h0
  have HF := Lib.hid hf
  have Hok := Lib.hid hok
  clear h0 hf hok
  refine callsIn_of_wp Tryz.func243 rfl trivial ?_ rfl
  simp only [Tryz.ntmps243, List.size_toArray, List.length_cons, List.length_nil, Nat.reduceAdd, Nat.reduceSub, Array.replicate_succ, Array.replicate_zero, List.push_toArray, List.append_toArray, List.nil_append, List.cons_append]
  gi_wp2
  gi_loopw [14] (fun i wr => ∃ (k : Nat) (pre : List (HopM p l q tree at_)), k ≤ p.cons.length ∧ i = .int .i64 k ∧ pre.length ≤ k ∧ Hid (unM pre = p.hopsK l q tree at_ k) ∧ J pre wr ∧ KpY n₁ g g2 W wr) (fun i _ => p.cons.length - (intOf i).toNat)
  case atStart => exact ⟨0, [], Nat.zero_le _, rfl, Nat.le_refl _, Lib.hid rfl, hj, KpY.refl _ _ _ _⟩
  case round =>
    obtain ⟨k, pre, hk, rfl, hpk, hcov, hjr, hK⟩ := hrel
    have hE := hK.out hE0 hn0 hg0 hg20
    have kt1 := hK.blk kt bt.1 bt.2.1 bt.2.2
    have ka1 := hK.blk ka ba.1 ba.2.1 ba.2.2
    have kr1 := hK.blk kr br.1 br.2.1 br.2.2
    have kq1 := hK.blk kq bq.1 bq.2.1 bq.2.2
    have hct1 := kt1.cell
    have hsz := hK.size
    by_cases hlt : k < p.cons.length
    · obtain ⟨b, o, rfl, hb, c0, c1, c2, c3, c4, c5, c6⟩ := (h.c.ext hE).con hlt
      have hyc := Hok.out.con _ (List.getElem_mem hlt)
      have hgc : gc p.cons (k : Int) = p.cons[k] := gc_get (i := (k : Int)) (by omega)
      have Hst := Lib.hid (show p.hopsK l q tree at_ (k + 1) = match p.hopI l q tree at_ k with | some h => p.hopsK l q tree at_ k ++ [h] | none => p.hopsK l q tree at_ k from rfl)
      have Hhi := Lib.hid (show p.hopI l q tree at_ k = if gi at_ (gc p.cons k).src < 0 ∨ 0 ≤ gi tree (gc p.cons k).dst then none else p.mhop l q k (gi at_ (gc p.cons k).src) from rfl)
      rw [hgc] at Hhi
      have hs0 := hyc.1.src0
      have hs1 := hyc.2.1
      have hd0 := hyc.1.dst0
      have hd1 := hyc.2.2
      generalize hye : p.cons[k] = y at *
      clear hye hgc hyc
      obtain ⟨W3, hW3, hB3, hk3, hl3⟩ := box1 wr y.cells 61
      simp only [Con.cells] at hW3 hk3
      have hck := hk3.cell
      have hlk := hk3.lt
      have hjr3 := abides_ext hJ hjr hB3
      have hK3 := hK.trans (KpY.of_ext (by omega) hB3)
      have hca := ((ka1.ext hB3).cell y.src.toNat).trans (arrV_get (by omega))
      have hla := (ka1.ext hB3).lt
      have hcr := ((kr1.ext hB3).cell y.dst.toNat).trans (arrV_get (by omega))
      have hlr := (kr1.ext hB3).lt
      have eS : ((y.src.toNat : Nat) : Int) = y.src := by omega
      have eD : ((y.dst.toNat : Nat) : Int) = y.dst := by omega
      rw [eS] at hca
      rw [eD] at hcr
      clear eS eD
      have hs2 : y.src < 16 := by omega
      have hd2 : y.dst < 16 := by omega
      by_cases hs : gi at_ y.src < 0
      · have HN := Lib.hid (Hhi.out.trans (if_pos (.inl hs)))
        have dS : decide (gi at_ y.src < 0) = true := decide_eq_true hs
        clear hs
        gi_wp2
        go_roundw
        case rel => exact ⟨k + 1, pre, by omega, by go_num, by omega, Lib.hid (by rw [Hst.out, HN.out]; exact hcov.out), hjr3, hK3⟩
        case measure => simp [intOf]; omega
      have dS : decide (gi at_ y.src < 0) = false := decide_eq_false hs
      by_cases hd : 0 ≤ gi tree y.dst
      · have HN := Lib.hid (Hhi.out.trans (if_pos (.inr hd)))
        have dS2 : decide (0 ≤ gi tree y.dst) = true := decide_eq_true hd
        clear hs hd
        gi_wp2
        go_roundw
        case rel => exact ⟨k + 1, pre, by omega, by go_num, by omega, Lib.hid (by rw [Hst.out, HN.out]; exact hcov.out), hjr3, hK3⟩
        case measure => simp [intOf]; omega
      have dD : decide (0 ≤ gi tree y.dst) = false := decide_eq_false hd
      replace Hhi := Lib.hid (Hhi.out.trans (if_neg (fun h => h.elim hs hd)))
      have hho := fun w h hl => mhop_any Aq cq (some ⟨b, o, none⟩) cc p Al cl l Ah nh ch q k (gi at_ y.src) w h hl H0.out HF.out hlt
      have hrd3 := (h.ext hE).ext hB3
      have hbk3 := (hbk.ext hE).ext hB3
      have hct3 := (kt1.ext hB3).cell
      have hlt3 := (kt1.ext hB3).lt
      have hcq3 := (kq1.ext hB3).cell
      have hlq3 := (kq1.ext hB3).lt
      unfold Req.val at hho
      clear hs hd
      cases hm : p.mhop l q k (gi at_ y.src) with
      | none =>
        have HN := Lib.hid (Hhi.out.trans hm)
        have hh2 : ∀ w, PlnRd w Aq cq (some ⟨b, o, none⟩) cc p → Rd EBk w Al l → Calls Tryz.prog 244 #[.agg #[.slice Aq p.quo.length cq, .slice (some ⟨b, o, none⟩) p.cons.length cc, .slice Al l.length cl, .slice Ah nh ch], .agg #[.int .i64 q.src, .int .i64 q.dst, .int .i64 q.size, .int .i64 q.ready, .int .i64 q.dead, .int .i64 q.prio, .bool q.cust], .int .i64 k, .int .i64 (gi at_ y.src)] w fun e w' => ∃ xa xb xc xd : Int, e = .returned (.tuple #[.agg #[.int .i64 xa, .int .i64 xb, .int .i64 xc, .int .i64 xd], .bool false]) ∧ Ext w w' := fun w h1 h2 => by
          refine (hho w h1 h2).mono ?_
          rintro e w' ⟨⟨x, rfl, _⟩, hb⟩
          rw [hm]
          exact ⟨x.con, x.beg, x.en, x.arr, rfl, hb⟩
        clear hho hm
        gi_wp2_with fail
        refine wpIn_wide.2 ?_
        have hN := Near.refl W3
        go_region_held3 (fun w' => Ext W3 w' ∧ ∀ b o, b < W3.heap.size → w'.cell? ⟨b, o, none⟩ = W3.cell? ⟨b, o, none⟩) (first | exact hN.drew | exact Near.step (by assumption) hb9 | exact near_alloc (by assumption) _ | (refine Near.of ?_; repeat (first | exact hx9 | refine Ext.alloc ?_ _ | (refine Ext.setCell ?_ ?_ _; rotate_left; (focus (first | exact Nat.le_refl _ | (dsimp only; omega)))))) | assumption)
          (first | (go_at_call 244; refine (hh2 _ (hrd3.ext (And.left (by assumption))) (hbk3.ext (And.left (by assumption)))).mono ?_; rintro e w9 ⟨xa, xb, xc, xd, rfl, hb9⟩; have hx9 : Ext W3 w9 := Ext.trans (And.left (by assumption)) hb9; have hs9 := hx9.size; have hz9 := fun (hh : Blk _ W3.heap.size 94 #[.int .i64 0, .int .i64 0, .int .i64 0, .int .i64 0]) => Blk.ext hh hb9; (try simp [blk_alloc_iff, blk_drew, blk_no0] at hz9); (try (have hz9c := Blk.cell hz9; have hz9f := Blk.frozen hz9; have hz9l := Blk.lt hz9))))
        all_goals
          have hX := And.left ‹Ext W3 _ ∧ _›
          clear hN
          gi_wp2_with fail
          refine ⟨fun _ h => (by cases h), ?_⟩
          gi_wp2
          go_roundw
          case rel => exact ⟨k + 1, pre, by omega, by go_num, by omega, Lib.hid (by rw [Hst.out, HN.out]; exact hcov.out), abides_ext hJ hjr3 hX, hK3.trans (KpY.of_ext (by omega) hX)⟩
          case measure => simp [intOf]; omega
      | some z =>
        have HN := Lib.hid (Hhi.out.trans hm)
        have hh2 : ∀ w, PlnRd w Aq cq (some ⟨b, o, none⟩) cc p → Rd EBk w Al l → Calls Tryz.prog 244 #[.agg #[.slice Aq p.quo.length cq, .slice (some ⟨b, o, none⟩) p.cons.length cc, .slice Al l.length cl, .slice Ah nh ch], .agg #[.int .i64 q.src, .int .i64 q.dst, .int .i64 q.size, .int .i64 q.ready, .int .i64 q.dead, .int .i64 q.prio, .bool q.cust], .int .i64 k, .int .i64 (gi at_ y.src)] w fun e w' => e = .returned (.tuple #[.agg #[.int .i64 z.con, .int .i64 z.beg, .int .i64 z.en, .int .i64 z.arr], .bool true]) ∧ Ext w w' := fun w h1 h2 => by
          refine (hho w h1 h2).mono ?_
          rintro e w' ⟨⟨x, rfl, hx⟩, hb⟩
          obtain rfl := hx z hm
          rw [hm]
          exact ⟨rfl, hb⟩
        clear hho hm
        obtain ⟨za, zb, zc, zd, hz⟩ : ∃ za zb zc zd : Int, z = ⟨za, zb, zc, zd⟩ := ⟨z.con, z.beg, z.en, z.arr, rfl⟩
        subst hz
        have Hst2 := Lib.hid (show p.hopsK l q tree at_ (k + 1) = p.hopsK l q tree at_ k ++ [⟨za, zb, zc, zd⟩] by rw [Hst.out, HN.out])
        simp only [] at hh2
        gi_wp2_with fail
        refine wpIn_wide.2 ?_
        have hN := Near.refl W3
        go_region_held3 (fun w' => Ext W3 w' ∧ ∀ b o, b < W3.heap.size → w'.cell? ⟨b, o, none⟩ = W3.cell? ⟨b, o, none⟩) (first | exact hN.drew | exact Near.step (by assumption) hb9 | exact near_alloc (by assumption) _ | (refine Near.of ?_; repeat (first | exact hx9 | refine Ext.alloc ?_ _ | (refine Ext.setCell ?_ ?_ _; rotate_left; (focus (first | exact Nat.le_refl _ | (dsimp only; omega)))))) | assumption)
          (first | (go_at_call 244; refine (hh2 _ (hrd3.ext (And.left (by assumption))) (hbk3.ext (And.left (by assumption)))).mono ?_; rintro e w9 ⟨rfl, hb9⟩; have hx9 : Ext W3 w9 := Ext.trans (And.left (by assumption)) hb9; have hs9 := hx9.size; have hz9 := fun (hh : Blk _ W3.heap.size 94 #[.int .i64 0, .int .i64 0, .int .i64 0, .int .i64 0]) => Blk.ext hh hb9; (try simp [blk_alloc_iff, blk_drew, blk_no0] at hz9); (try (have hz9c := Blk.cell hz9; have hz9f := Blk.frozen hz9; have hz9l := Blk.lt hz9))))
        · obtain ⟨W5, hW5, hB59, hk5, hl5⟩ := box1 w9 #[.int .i64 za, .int .i64 zb, .int .i64 zc, .int .i64 zd] 94
          have hB5 := hx9.trans hB59
          clear hN
          rw [hW5]
          obtain ⟨fn, tmps, assign, body, hy, hR⟩ := hY pre ⟨⟨za, zb, zc, zd⟩, ⟨k, hlt, HN.out⟩⟩ W5 (abides_ext hJ hjr3 hB5) (by omega)
          dsimp only [hopM] at hy
          have hc5 := hk5.cell
          gi_wp2
          refine hR.mono ?_
          rintro e W6 (⟨rfl, hJ6, hk6⟩ | ⟨rfl, hJx6⟩)
          · gi_wp2
            go_roundw
            case rel => exact ⟨k + 1, _, by omega, by go_num, by simp; omega, Lib.hid (by rw [unM_snoc, Hst2.out, hcov.out]), hJ6, hK3.trans ((KpY.of_ext (by omega) hB5).trans hk6)⟩
            case measure => simp [intOf]; omega
          · gi_wp2
            refine bodyPost_ret (results_none rfl _ _ _) rfl ?_
            exact ⟨⟨_, rfl⟩, .inr ⟨_, trivial, hJx6⟩⟩
        · obtain ⟨W5, hW5, hk5, hB5⟩ : ∃ W5, World.setCells w9 W3.heap.size 0 [.int .i64 za, .int .i64 zb, .int .i64 zc, .int .i64 zd] = W5 ∧ Blk W5 W3.heap.size 94 #[.int .i64 za, .int .i64 zb, .int .i64 zc, .int .i64 zd] ∧ Ext W3 W5 :=
            ⟨_, rfl, hz9.setCells_ [.int .i64 za, .int .i64 zb, .int .i64 zc, .int .i64 zd] 0, ext_setCells hx9 (Nat.le_refl _) 0 _⟩
          simp only [World.setCells, Nat.zero_add, Nat.reduceAdd] at hW5
          clear hN
          rw [hW5]
          obtain ⟨fn, tmps, assign, body, hy, hR⟩ := hY pre ⟨⟨za, zb, zc, zd⟩, ⟨k, hlt, HN.out⟩⟩ W5 (abides_ext hJ hjr3 hB5) (by omega)
          dsimp only [hopM] at hy
          have hc5 := hk5.cell
          gi_wp2
          refine hR.mono ?_
          rintro e W6 (⟨rfl, hJ6, hk6⟩ | ⟨rfl, hJx6⟩)
          · gi_wp2
            go_roundw
            case rel => exact ⟨k + 1, _, by omega, by go_num, by simp; omega, Lib.hid (by rw [unM_snoc, Hst2.out, hcov.out]), hJ6, hK3.trans ((KpY.of_ext (by omega) hB5).trans hk6)⟩
            case measure => simp [intOf]; omega
          · gi_wp2
            refine bodyPost_ret (results_none rfl _ _ _) rfl ?_
            exact ⟨⟨_, rfl⟩, .inr ⟨_, trivial, hJx6⟩⟩
    · gi_wp2
      go_end0
      exact ⟨⟨_, rfl⟩, .inl ⟨pre, by unfold Pln.hopsL; rw [show p.cons.length = k by omega]; exact hcov.out, hjr⟩⟩

theorem mhops_stops (Bt Ba Br Bq n₁ g g2 : Nat) (Aq : Option Addr) (cq : Nat) (Ac : Option Addr) (cc : Nat) (p : Pln) (Al : Option Addr) (cl : Nat) (l : List Bk) (Ah : Option Addr) (nh ch : Nat) (q : Req) (tree at_ : List Int) (w0 w : World)
    (C : HopC35 w0 w Bt Ba Br Bq n₁ g g2 Aq cq Ac cc p Al cl l Ah nh ch q tree at_) :
    SeqStopsK Fence.wide 4 Tryz.prog 243 #[.pointer (some ⟨Bt, 0, none⟩), .pointer (some ⟨Ba, 0, none⟩), .pointer (some ⟨Br, 0, none⟩), .pointer (some ⟨Bq, 0, none⟩)] (hopM (p := p) (l := l) (q := q) (tree := tree) (at_ := at_)) (KpY n₁ g g2) (fun ys => unM ys = p.hopsL l q tree at_) (fun _ => True) 65 w :=
  fun li J Jx W hW hJ _ hY hj => mhops_iter li Bt Ba Br Bq n₁ g g2 Aq cq Ac cc p Al cl l Ah nh ch q tree at_ w0 W
    ⟨C.rd, C.bk, C.ok, C.fine, C.tl, C.al, C.ext.trans hW, C.n0, C.g0, C.g20, Nat.le_trans C.n1 (Ext.size hW), C.kt.ext hW, C.ka.ext hW, C.kr.ext hW, C.kq.ext hW, C.bt, C.ba, C.br, C.bq⟩ J Jx hJ hY hj

set_option maxHeartbeats 800000 in
theorem mhops_any (v0 v1 v2 v3 : Value) (q : Req) (tree at_ : List Int) (w : World) :
    Calls Tryz.prog 161 #[.agg #[v0, v1, v2, v3], q.val, .agg (arrV tree), .agg (arrV at_)] w fun e w' =>
      e = .returned (.func (.func 243) #[] #[.pointer (some ⟨w.heap.size, 0, none⟩), .pointer (some ⟨w.heap.size + 3, 0, none⟩), .pointer (some ⟨w.heap.size + 2, 0, none⟩), .pointer (some ⟨w.heap.size + 1, 0, none⟩)]) ∧ Ext w w' ∧ w'.heap.size = w.heap.size + 4 ∧
      Blk w' w.heap.size 83 #[v0, v1, v2, v3] ∧ Blk w' (w.heap.size + 1) 85 #[.int .i64 q.src, .int .i64 q.dst, .int .i64 q.size, .int .i64 q.ready, .int .i64 q.dead, .int .i64 q.prio, .bool q.cust] ∧ Blk w' (w.heap.size + 2) 175 (arrV tree) ∧ Blk w' (w.heap.size + 3) 175 (arrV at_) := by
  obtain ⟨W1, hW1, hB1, hk1, hl1⟩ := box1 w #[v0, v1, v2, v3] 83
  have s1 : W1.heap.size = w.heap.size + 1 := by rw [← hW1]; simp
  obtain ⟨W2, hW2, hB2, hk2, hl2⟩ := box1 W1 q.cells 85
  simp only [Req.cells] at hW2 hk2
  have s2 : W2.heap.size = w.heap.size + 2 := by rw [← hW2]; simp [s1]
  obtain ⟨W3, hW3, hB3, hk3, hl3⟩ := box1 W2 (arrV tree) 175
  have s3 : W3.heap.size = w.heap.size + 3 := by rw [← hW3]; simp [s2]
  obtain ⟨W4, hW4, hB4, hk4, hl4⟩ := box1 W3 (arrV at_) 175
  have s4 : W4.heap.size = w.heap.size + 4 := by rw [← hW4]; simp [s3]
  rw [s1] at hk2
  rw [s2] at hk3
  rw [s3] at hk4
  have S1 := Lib.hid s1
  have S2 := Lib.hid s2
  have S3 := Lib.hid s3
  have S4 := Lib.hid s4
  clear s1 s2 s3 s4
  unfold Req.val
  go_enter Tryz.func161, Tryz.ntmps161
  go_wp2
  go_ret
  refine ⟨?_, (hB1.trans hB2).trans (hB3.trans hB4), S4.out, ((hk1.ext hB2).ext hB3).ext hB4, (hk2.ext hB3).ext hB4, hk3.ext hB4, hk4⟩
  rw [S1.out, S2.out, S3.out]
  rfl

end Go.Proofs.YtemkpimngbbpkaaGreat

namespace Go.Proofs.YtemkpimngbbpkaaGreat
set_option linter.unusedVariables false
set_option linter.unusedSimpArgs false
set_option linter.unusedVariables false
open Go.RowKit

def Pln.eStep (p : Pln) (s : Bool × List Int) (h : Hp) : Bool × List Int :=
  if gi s.2 (gc p.cons h.con).dst < 0 ∨ h.arr < gi s.2 (gc p.cons h.con).dst then (true, s.2.set (gc p.cons h.con).dst.toNat h.arr) else s
def Pln.eRnd (p : Pln) (l : List Bk) (q : Req) (tree at_ : List Int) : Bool × List Int := (p.hopsL l q tree at_).foldl p.eStep (false, at_)
def Pln.eIt (p : Pln) (l : List Bk) (q : Req) (tree : List Int) : Nat → List Int
  | 0 => tree
  | k + 1 => (p.eRnd l q tree (p.eIt l q tree k)).2
def Pln.EarlP (p : Pln) (l : List Bk) (q : Req) (tree T : List Int) : Prop := (∃ k, T = p.eIt l q tree k) ∧ (p.eRnd l q tree T).1 = false
theorem eStep_len {p : Pln} {s : Bool × List Int} {h : Hp} : (p.eStep s h).2.length = s.2.length := by unfold Pln.eStep; split <;> simp
theorem eFold_len {p : Pln} : ∀ (m : List Hp) (s : Bool × List Int), (m.foldl p.eStep s).2.length = s.2.length
  | [], s => rfl
  | h :: m, s => by rw [List.foldl_cons, eFold_len m, eStep_len]
theorem eRnd_len {p : Pln} {l : List Bk} {q : Req} {tree at_ : List Int} : (p.eRnd l q tree at_).2.length = at_.length := eFold_len _ _
theorem eIt_len {p : Pln} {l : List Bk} {q : Req} {tree : List Int} : ∀ k, (p.eIt l q tree k).length = tree.length
  | 0 => rfl
  | k + 1 => by show (p.eRnd l q tree (p.eIt l q tree k)).2.length = _; rw [eRnd_len, eIt_len k]

def nu (m : List Int) : Nat := (m.map fun x => if x < 0 then 2199023255552 else x.toNat).sum
theorem nu_set : ∀ {m : List Int} {k : Nat} {v : Int}, (h : k < m.length) → (m[k] < 0 ∨ v < m[k]) → 0 ≤ v → v < 2199023255552 → nu (m.set k v) < nu m
  | x :: m, 0, v, _, h1, h2, h3 => by
    simp only [List.getElem_cons_zero] at h1
    simp only [nu, List.set_cons_zero, List.map_cons, List.sum_cons]
    rw [if_neg (by omega)]
    split <;> omega
  | x :: m, k + 1, v, h, h1, h2, h3 => by
    have := nu_set (m := m) (k := k) (v := v) (by simpa using h) (by simpa using h1) h2 h3
    simp only [nu, List.set_cons_succ, List.map_cons, List.sum_cons] at this ⊢
    omega
def HopOk (p : Pln) (h : Hp) : Prop := 0 ≤ (gc p.cons h.con).dst ∧ (gc p.cons h.con).dst < 16 ∧ 0 ≤ h.arr ∧ h.arr ≤ 1099511627776
theorem eStep_nu {p : Pln} {s : Bool × List Int} {h : Hp} (hh : HopOk p h) (hl : s.2.length = 16) : p.eStep s h = s ∨ ((p.eStep s h).1 = true ∧ nu (p.eStep s h).2 < nu s.2) := by
  unfold Pln.eStep
  split
  · rename_i hc
    right
    obtain ⟨h1, h2, h3, h4⟩ := hh
    refine ⟨rfl, nu_set (by omega) ?_ h3 (by omega)⟩
    rw [gi_of h1 (by omega)] at hc
    exact hc
  · exact .inl rfl
theorem eFold_nu {p : Pln} : ∀ (m : List Hp) (s : Bool × List Int), (∀ h ∈ m, HopOk p h) → s.2.length = 16 → m.foldl p.eStep s = s ∨ ((m.foldl p.eStep s).1 = true ∧ nu (m.foldl p.eStep s).2 < nu s.2)
  | [], s, _, _ => .inl rfl
  | h :: m, s, hm, hl => by
    have h1 := eStep_nu (s := s) (hm h (by simp)) hl
    have h2 := eFold_nu m (p.eStep s h) (fun x hx => hm x (by simp [hx])) (by rw [eStep_len]; exact hl)
    rw [List.foldl_cons]
    rcases h1 with e | ⟨e1, e2⟩
    · rw [e] at h2 ⊢; exact h2
    · rcases h2 with e | ⟨e3, e4⟩
      · right; rw [e]; exact ⟨e1, e2⟩
      · right; exact ⟨e3, by omega⟩
theorem HopF.okk {p : Pln} {l : List Bk} {q : Req} {tree at_ : List Int} {h : Hp} {i : Nat} (f : HopF p l q tree at_ h i) (h0 : p.bkChk l = 0) (hq : 1 ≤ q.size ∧ q.size ≤ 65536) : HopOk p h := by
  have hl := f.late h0 hq
  have hok := Pln.ok_of (Pln.bkChk_ok h0).1
  have hn := hok.n16
  have hgc : gc p.cons (i : Int) = p.cons[i]'f.lt := gc_get (i := (i : Int)) (by have := f.lt; omega)
  have hc := hok.con _ (List.getElem_mem f.lt)
  rw [← hgc] at hc
  have h1 := hc.1.dst0
  have h2 := hc.2.2
  unfold HopOk
  rw [f.con]
  omega
theorem hopsL_ok {p : Pln} {l : List Bk} {q : Req} {tree at_ : List Int} (h0 : p.bkChk l = 0) (hq : 1 ≤ q.size ∧ q.size ≤ 65536) : ∀ h ∈ p.hopsL l q tree at_, HopOk p h := fun h hm => by
  obtain ⟨i, f⟩ := HopP.facts (hopsK_mem (Nat.le_refl _) hm)
  exact f.okk h0 hq
theorem eRnd_nu {p : Pln} {l : List Bk} {q : Req} {tree at_ : List Int} (h0 : p.bkChk l = 0) (hq : 1 ≤ q.size ∧ q.size ≤ 65536) (hl : at_.length = 16) :
    p.eRnd l q tree at_ = (false, at_) ∨ ((p.eRnd l q tree at_).1 = true ∧ nu (p.eRnd l q tree at_).2 < nu at_) :=
  eFold_nu _ _ (hopsL_ok h0 hq) hl

end Go.Proofs.YtemkpimngbbpkaaGreat

namespace Go.Proofs.YtemkpimngbbpkaaGreat
set_option linter.unusedVariables false
set_option linter.unusedSimpArgs false
set_option linter.unusedVariables false
set_option linter.unusedSimpArgs false
open Go.RowKit
attribute [local go_sem] Oper.semAt_some

def vlen : Value → Nat
  | .slice _ n _ => n
  | _ => 0
def wdV (x : UInt64) : Array Value := #[.int .u64 (x.toNat : Int)]
def wdK (s : Bts) (i : Nat) : List UInt64 := (List.range i).map fun j => wrd (s.drop (8 * j))
theorem wdK_succ (s : Bts) (i : Nat) : wdK s (i + 1) = wdK s i ++ [wrd (s.drop (8 * i))] := by simp [wdK, List.range_succ]
theorem wdK_len (s : Bts) (i : Nat) : (wdK s i).length = i := by simp [wdK]
theorem wordsL_wdK (s : Bts) : wordsL s = wdK s (s.length / 8) ++ [wrd (lastB s)] := rfl
def WdF (s : Bts) (ys : List UInt64) : Prop := ys = wordsL s
def padB (r : Bts) : Bts := r ++ List.replicate (8 - r.length) 0
theorem padB_len {r : Bts} (h : r.length < 8) : (padB r).length = 8 := by simp [padB]; omega
theorem lastB_pad (s : Bts) : lastB s = (padB (s.drop (s.length / 8 * 8))).set 7 (UInt8.ofNat s.length) := rfl
theorem rd_all {w : World} {A : Option Addr} {l : Bts} (h : Rd EB w A l) {ad : Addr} (e : A = some ad) (hn : 0 < l.length) : ∀ j v, (l.map byC)[j]? = some v → w.cell? (ad.add j) = some v := by
  obtain ⟨ad', e', _, hc⟩ := h.2 hn
  rw [e] at e'
  injection e' with e'
  subst e'
  rw [eb_all] at hc
  exact hc
theorem zeros_pad {r : Bts} (h : r.length < 8) : (r.map byC ++ (List.replicate 8 (Value.int .u8 0)).drop r.length) = (padB r).map byC := by
  unfold padB
  rw [List.map_append, List.drop_replicate, List.map_replicate]
  rfl
theorem copy_last (A : Option Addr) (c : Nat) (r : Bts) (w : World) (g : Nat) (hR : Rd EB w A r) (hr : r.length < 8) (hg : Blk w g 433 #[.int .u8 0, .int .u8 0, .int .u8 0, .int .u8 0, .int .u8 0, .int .u8 0, .int .u8 0, .int .u8 0]) :
    ∃ m w', (∀ ty, (Builtin.copy_ #[22, 22] ty #[.slice (some ⟨g, 0, none⟩) 8 8, .slice A r.length c]).run Tryz.prog w = .ok m w') ∧ Blk w' g 433 ((padB r).map byC).toArray ∧ w.grownBy w' (some g) := by
  have hs : (Tryz.prog.info? 5).map (·.size) = some 1 := by kernel_rfl
  rcases Nat.eq_zero_or_pos r.length with h0 | h0
  · obtain rfl : r = [] := List.eq_nil_of_length_eq_zero h0
    exact ⟨_, _, fun ty => run_copy_none w _ _ ty _ _ A 8 8 0 c Tryz.underlying22 hs rfl, hg, World.grownBy.refl _ _⟩
  · obtain ⟨ad, e, _, _⟩ := hR.2 h0
    subst e
    have h1 := fun ty => run_copy_row (P := Tryz.prog) w 22 22 ty 5 g 0 8 8 ad r.length c _ 433 (r.map byC) Tryz.underlying22 hs hg (by rw [List.length_map]; exact (Nat.min_eq_left (by omega)).symm) (rd_all hR rfl h0) (by rw [List.length_map]; simp; omega) (by
      intro v hv
      obtain ⟨b, _, rfl⟩ := List.mem_map.1 hv
      rfl)
    refine ⟨_, _, h1, ?_, ?_⟩
    · have h2 := setRow_heap w g _ ((([.int .u8 0, .int .u8 0, .int .u8 0, .int .u8 0, .int .u8 0, .int .u8 0, .int .u8 0, .int .u8 0] : List Value).take 0 ++ r.map byC ++ ([.int .u8 0, .int .u8 0, .int .u8 0, .int .u8 0, .int .u8 0, .int .u8 0, .int .u8 0, .int .u8 0] : List Value).drop (0 + (r.map byC).length)).toArray) 433 (0, 0) hg
      have h3 := zeros_pad hr
      rw [List.length_map, List.take_zero, List.nil_append, Nat.zero_add] at h2
      rw [show ([.int .u8 0, .int .u8 0, .int .u8 0, .int .u8 0, .int .u8 0, .int .u8 0, .int .u8 0, .int .u8 0] : List Value) = List.replicate 8 (Value.int .u8 0) from rfl, h3] at h2
      have h4 : (List.take 0 (#[Value.int .u8 0, .int .u8 0, .int .u8 0, .int .u8 0, .int .u8 0, .int .u8 0, .int .u8 0, .int .u8 0] : Array Value).toList ++ List.map byC r ++ List.drop (0 + (List.map byC r).length) (#[Value.int .u8 0, .int .u8 0, .int .u8 0, .int .u8 0, .int .u8 0, .int .u8 0, .int .u8 0, .int .u8 0] : Array Value).toList) = (padB r).map byC := by
        rw [List.length_map, List.take_zero, List.nil_append, Nat.zero_add, ← h3]
        rfl
      rw [h4]
      exact h2
    · exact ⟨rfl, rfl, rfl, by simp, fun k _ hk => setRow_other w g k _ (fun e => hk (by rw [e]))⟩

set_option maxRecDepth 100000 in
set_option maxHeartbeats 8000000 in
theorem words_iter (l B : Nat) (S : Nat → Prop) (s : Bts) (W : World) (hz : s.length ≤ 65536) (kb : Blk W B 9 #[strV s]) (hB : ¬ S B) (hS : ∀ k, S k → k < W.heap.size)
    (J Jx : List UInt64 → World → Prop) (hJ : AbidesFrom W.heap.size J)
    (hY : ∀ pre x W, J pre W → pre.length < 10000 → YieldAt Fence.wide 3 Tryz.prog l (wdV x) W fun e W' =>
      (e = .returned (.bool true) ∧ J (pre ++ [x]) W' ∧ KpQ S W W') ∨ (e = .returned (.bool false) ∧ Jx (pre ++ [x]) W'))
    (hj : J [] W) :
    CallsIn Fence.wide 4 Tryz.prog 316 #[.func (.yield l) #[] #[], .pointer (some ⟨B, 0, none⟩)] W fun e W' => (∃ v, e = .returned v) ∧
      ((∃ ys : List UInt64, WdF s ys ∧ J ys W') ∨ (∃ pre : List UInt64, True ∧ Jx pre W')) := by
  have c1 := kb.cell
  have c2 := kb.lt
  have hsz := ba_size s
  obtain ⟨cap, w1, q0, ho1, hx1, hs1⟩ := conv_bytes (P := Tryz.prog) W 9 22 5 s Tryz.underlying9 Tryz.underlying22 Tryz.underlying5 (by omega)
  have hcap : s.length ≤ cap := by
    rcases ho1 with ⟨h, _⟩ | ⟨g, cp, cur, fz, h, _, _, _, h5, _⟩
    · cases h
    · injection h with h1 h2 h3
      rw [h3]; exact h5
  obtain ⟨A1, cc1, hA1, hR1⟩ := ho1.form
  injection hA1 with hA1 _ hA2
  subst hA1 hA2
  obtain ⟨n0, hn0⟩ : ∃ n, s.length = n := ⟨_, rfl⟩
  rw [hn0] at hsz hz hcap q0
  have HN := Lib.hid hn0
  obtain ⟨ba, hba⟩ : ∃ ba : ByteArray, ⟨s.toArray⟩ = ba := ⟨_, rfl⟩
  unfold strV at kb c1 q0
  rw [hba] at hsz kb c1 q0
  clear hn0 hba ho1
  refine callsIn_of_wp Tryz.func316 rfl trivial ?_ rfl
  simp only [Tryz.ntmps316, List.size_toArray, List.length_cons, List.length_nil, Nat.reduceAdd, Nat.reduceSub, Array.replicate_succ, Array.replicate_zero, List.push_toArray, List.append_toArray, List.nil_append, List.cons_append]
  gi_wp2
  clear c1 c2 q0
  gi_loopw [3] (fun v wx => ∃ (i n : Nat) (A : Option Addr) (c : Nat), v = .slice A n c ∧ n + 8 * i = n0 ∧ n ≤ c ∧ Rd EB wx A (s.drop (8 * i)) ∧ Hid (∀ ad, A = some ad → ¬ S ad.block) ∧ J (wdK s i) wx ∧ KpQ S W wx) (fun v _ => vlen v)
  case atStart => exact ⟨0, n0, _, cap, rfl, by omega, hcap, by simpa using hR1, Lib.hid (fun ad e hs => by injection e with e; subst e; have := hS _ hs; simp at this), by simpa [wdK] using abides_ext hJ hj hx1, KpQ.of_ext hx1⟩
  case round =>
    obtain ⟨i, n, A, c, rfl, hni, hnc, hR, hA, hjr, hk⟩ := hrel
    have kx := hk.blk kb hB
    have a1 := kx.cell
    have a2 := kx.lt
    have hdl : (s.drop (8 * i)).length = n := by rw [List.length_drop, HN.out]; omega
    have HD := Lib.hid hdl
    have Hni := Lib.hid hni
    by_cases h8 : 8 ≤ n
    · have hw := word_any A c (s.drop (8 * i)) wr hR (by omega)
      rw [hdl] at hw
      have hsu := wdK_succ s i
      obtain ⟨x, hx⟩ : ∃ x, wrd (s.drop (8 * i)) = x := ⟨_, rfl⟩
      rw [hx] at hw hsu
      have Hsu := Lib.hid hsu
      obtain ⟨i0, hi0, hz0, hz1, hz2⟩ := info_parts info_byte
      have q1 : ∀ w, (Instr.slice 22 (.slice A n c) (some (.int .i64 8)) none none).run Tryz.prog w = .ok (.slice (cutA A c 8 1) (n - 8) (c - 8)) w := fun w => run_cut (k := 8) Tryz.underlying22 hi0 hz1 h8 w
      obtain ⟨fn, tmps, assign, body, hy, hR9⟩ := hY (wdK s i) x wr hjr (by rw [wdK_len]; omega)
      dsimp only [wdV] at hy
      have hRc := hR.cut (c := c) (k := 8) (by omega) (by omega)
      rw [List.drop_drop] at hRc
      clear hsu hx hni hdl
      gi_wp2_with (refine ⟨trivial, ?_⟩; gi_at_call 269; refine (callsIn_wide.2 hw).mono ?_; rintro e w4 ⟨rfl, rfl⟩)
      refine hR9.mono ?_
      rintro e W6 (⟨rfl, hJ6, hk6⟩ | ⟨rfl, hJx6⟩)
      · clear hw hy a1 a2
        gi_wp2
        go_roundw
        case rel =>
          refine ⟨i + 1, n - 8, _, c - 8, rfl, by have := Hni.out; omega, by omega, ?_, Lib.hid ?_, by rw [Hsu.out]; exact hJ6, hk.trans hk6⟩
          · have hA' : ∀ ad, cutA A c 8 1 = some ad → ¬ S ad.block := fun ad e => by
              unfold cutA at e
              split at e
              · exact hA.out ad e
              · cases A with
                | none => cases e
                | some a =>
                  injection e with e
                  subst e
                  rw [block_of_add]
                  exact hA.out a rfl
            have := hk6.rd hRc hA'
            rw [show 8 * (i + 1) = 8 * i + 8 by omega]
            exact this
          · intro ad e
            unfold cutA at e
            split at e
            · exact hA.out ad e
            · cases A with
              | none => cases e
              | some a =>
                injection e with e
                subst e
                rw [block_of_add]
                exact hA.out a rfl
        case measure => simp [vlen]; omega
      · gi_wp2
        refine bodyPost_ret (results_none rfl _ _ _) rfl ?_
        exact ⟨⟨_, rfl⟩, .inr ⟨_, trivial, hJx6⟩⟩
    · have hiq : i = n0 / 8 := by omega
      obtain ⟨W2, hW2, hB2, hk2, hl2⟩ := box1 wr #[.int .u8 0, .int .u8 0, .int .u8 0, .int .u8 0, .int .u8 0, .int .u8 0, .int .u8 0, .int .u8 0] 433
      obtain ⟨m3, W3, q3, hk3, hg3⟩ := copy_last A c (s.drop (8 * i)) W2 wr.heap.size (hR.ext hB2) (by omega) hk2
      rw [hdl] at q3
      have hpl := padB_len (r := s.drop (8 * i)) (by omega)
      have hlast : lastB s = (padB (s.drop (8 * i))).set 7 (UInt8.ofNat n0) := by rw [lastB_pad, HN.out, hiq, Nat.mul_comm]
      have HL := Lib.hid hlast
      have hws : wordsL s = wdK s i ++ [wrd (lastB s)] := by rw [wordsL_wdK, HN.out, hiq]
      have HW := Lib.hid hws
      have hE3 : Ext wr W3 := hB2.keptb hg3 (by rintro r ⟨rfl⟩; exact Nat.le_refl _)
      have kx3 := kx.ext hE3
      have b1 := kx3.cell
      have b2 := kx3.lt
      have b3 := hk3.lt
      obtain ⟨P, hP⟩ : ∃ P : Bts, padB (s.drop (8 * i)) = P := ⟨_, rfl⟩
      rw [hP] at hk3 hpl HL
      obtain ⟨y, hy⟩ : ∃ y, UInt8.ofNat n0 = y := ⟨_, rfl⟩
      rw [hy] at HL
      have y1 : IntKind.u8.wrap (n0 : Int) = (y.toNat : Int) := by rw [IntKind.wrap_u8', ← hy, UInt8.toNat_ofNat']; rfl
      have y2 : (n0 : Int) % 256 = (y.toNat : Int) := by rw [← hy, UInt8.toNat_ofNat']; rfl
      have p7 : 7 < P.length := by omega
      have b4 : W3.cell? ⟨wr.heap.size, 7, none⟩ = some (byC P[7]) := by rw [hk3.cell]; simp [p7]
      have b5 := hk3.frozen
      have hk4 := hk3.set_ 7 (.int .u8 (y.toNat : Int))
      have e4 : (P.map byC).toArray.setIfInBounds 7 (.int .u8 (y.toNat : Int)) = (EB.all (lastB s)).toArray := by
        rw [eb_all, HL.out, List.map_set]
        apply Array.toList_inj.1
        rw [Array.toList_setIfInBounds]
        rfl
      rw [e4] at hk4
      have hE4 := hE3.setCell (p := ⟨wr.heap.size, 7, none⟩) (Nat.le_refl _) (.int .u8 (y.toNat : Int))
      obtain ⟨W4, hW4⟩ : ∃ W4, W3.setCell ⟨wr.heap.size, 7, none⟩ (.int .u8 (y.toNat : Int)) = W4 := ⟨_, rfl⟩
      rw [hW4] at hk4 hE4
      have hl8 : (lastB s).length = 8 := by rw [HL.out, List.length_set, hpl]
      have hw := word_any (some ⟨wr.heap.size, 0, none⟩) 8 (lastB s) W4 (rd_blk hk4) (by omega)
      rw [hl8] at hw
      obtain ⟨x, hx⟩ : ∃ x, wrd (lastB s) = x := ⟨_, rfl⟩
      rw [hx] at hw HW
      obtain ⟨fn, tmps, assign, body, hy9, hR9⟩ := hY (wdK s i) x W4 (abides_ext hJ hjr hE4) (by rw [wdK_len]; omega)
      dsimp only [wdV] at hy9
      have HY := Lib.hid hy
      clear hx hy hiq hlast hws hE3 hk2 hg3 hpl e4 hl8 hP a1 a2 hni hdl
      gi_wp2_with (refine ⟨trivial, ?_⟩; gi_at_call 269; refine (callsIn_wide.2 hw).mono ?_; rintro e w9 ⟨rfl, rfl⟩)
      refine hR9.mono ?_
      rintro e W6 (⟨rfl, hJ6, hk6⟩ | ⟨rfl, hJx6⟩)
      · gi_wp2
        go_end0
        exact ⟨⟨_, rfl⟩, .inl ⟨_, HW.out.symm, hJ6⟩⟩
      · gi_wp2
        go_end0
        exact ⟨⟨_, rfl⟩, .inr ⟨_, trivial, hJx6⟩⟩

theorem words_stops (B : Nat) (S : Nat → Prop) (s : Bts) (w : World) (hz : s.length ≤ 65536) (kb : Blk w B 9 #[strV s]) (hB : ¬ S B) (hS : ∀ k, S k → k < w.heap.size) :
    SeqStopsK Fence.wide 4 Tryz.prog 316 #[.pointer (some ⟨B, 0, none⟩)] wdV (KpQ S) (WdF s) (fun _ => True) 10000 w :=
  fun l J Jx W hW hJ _ hY hj => words_iter l B S s W hz (kb.ext hW) hB (fun k hk => Nat.lt_of_lt_of_le (hS k hk) (Ext.size hW)) J Jx hJ hY hj

set_option maxHeartbeats 400000 in
theorem words_any (s : Bts) (w : World) :
    Calls Tryz.prog 270 #[strV s] w fun e w' => e = .returned (.func (.func 316) #[] #[.pointer (some ⟨w.heap.size, 0, none⟩)]) ∧ Ext w w' ∧ w'.heap.size = w.heap.size + 1 ∧ Blk w' w.heap.size 9 #[strV s] := by
  obtain ⟨v, hv⟩ : ∃ v, (⟨s.toArray⟩ : ByteArray) = v := ⟨_, rfl⟩
  unfold strV
  rw [hv]
  obtain ⟨W1, hW1, hB1, hk1, hl1⟩ := box1 w #[.string v] 9
  have s1 : W1.heap.size = w.heap.size + 1 := by rw [← hW1]; simp
  have S1 := Lib.hid s1
  clear s1 hv
  go_enter Tryz.func270, Tryz.ntmps270
  go_wp2
  go_ret
  exact ⟨rfl, hB1, S1.out, hk1⟩

end Go.Proofs.YtemkpimngbbpkaaGreat

namespace Go.Proofs.YtemkpimngbbpkaaGreat
set_option linter.unusedVariables false
set_option linter.unusedSimpArgs false
set_option linter.unusedVariables false
set_option linter.unusedSimpArgs false
open Go.RowKit Go.Shelf
attribute [local go_sem] Oper.semAt_some

theorem OwnsB.rdB {w : World} {base : Nat} {e : TypeId} {A : Option Addr} {n c : Nat} {l : Bts} (h : OwnsB w base e (.slice A n c) l) : Rd EB w A l := by
  obtain ⟨A', c', e, hR⟩ := h.form
  injection e with e1 _ _
  subst e1
  exact hR
theorem slice_from {P : Program} (t : TypeId) (l : Bts) (k : Nat) (h : P.underlying t = some .string) (hk : k ≤ l.length) (w : World) :
    (Instr.slice t (strV l) (some (.int .i64 (k : Int))) none none).run P w = .ok (strV (l.drop k)) w := by
  have hs := bsize_mk l
  have h1 := run_slice_string_l w t (⟨l.toArray⟩ : ByteArray) h .i64 (k : Int) (by omega) (by rw [hs]; omega)
  unfold strV
  rw [h1, hs, Int.toNat_natCast, ByteArray.extract_mk]
  rw [List.take_of_length_le (by simp)]
theorem slice_mid {P : Program} (t : TypeId) (l : Bts) (i j : Nat) (h : P.underlying t = some .string) (hij : i ≤ j) (hj : j ≤ l.length) (w : World) :
    (Instr.slice t (strV l) (some (.int .i64 (i : Int))) (some (.int .i64 (j : Int))) none).run P w = .ok (strV ((l.drop i).take (j - i))) w := by
  have hs := bsize_mk l
  have h1 := run_slice_string w t (⟨l.toArray⟩ : ByteArray) .i64 .i64 (i : Int) (j : Int) h (by omega) (by omega) (by rw [hs]; omega)
  unfold strV
  rw [h1, Int.toNat_natCast, Int.toNat_natCast, ByteArray.extract_mk]

def QRl (v0 : Q4) (bo b1 : Nat) (W0 : World) (pre : List UInt64) (W : World) : Prop := Blk W bo 391 (pre.foldl Q4.word v0).cells ∧ Ext W0 W ∧ b1 ≤ W.heap.size
theorem qrl_own {v0 : Q4} {bo b1 B : Nat} {W0 : World} (hB : W0.heap.size ≤ B) : OwnFrom B (QRl v0 bo b1 W0) := by
  intro pre X Y row hs hg hr
  obtain ⟨h1, h3, h4⟩ := hs
  exact ⟨h1.keptc hg (fun r e => (hr r e).2), h3.keptb hg (fun r e => Nat.le_trans hB (hr r e).1), Nat.le_trans h4 hg.size⟩
theorem grown_trans {a b c : World} {row : Option Nat} (h : a.grownBy b row) (k : b.grownBy c row) : a.grownBy c row :=
  ⟨k.os.trans h.os, k.tape.trans h.tape, k.output.trans h.output, Nat.le_trans h.size k.size, fun i hi hne => (k.block i (Nat.lt_of_lt_of_le hi h.size) hne).trans (h.block i hi hne)⟩
theorem qrl_put {v0 : Q4} {bo b1 : Nat} {W0 W W' : World} {pre : List UInt64} {x : UInt64} (h : QRl v0 bo b1 W0 pre W) (hbo : W0.heap.size ≤ bo) (hk : Blk W' bo 391 ((pre ++ [x]).foldl Q4.word v0).cells) (hg : W.grownBy W' (some bo)) :
    KeepsFrom b1 W W' ∧ KpQ (fun b => b = bo) W W' ∧ QRl v0 bo b1 W0 (pre ++ [x]) W' := by
  obtain ⟨h1, h3, h4⟩ := h
  refine ⟨(KeepsOthers.of_grownBy hg (fun j o e ho => ?_)).from _, KpQ.grown hg (fun r e => by injection e with e; exact e.symm), hk, h3.keptb hg (fun r e => by injection e with e; omega), Nat.le_trans h4 hg.size⟩
  injection e with e
  subst e
  have h2 : W.heap[bo]? = some (.cells _ _ (0, 0)) := h1
  rw [h2] at ho
  injection ho with ho
  subst ho
  rfl
def rndK (v : Q4) : Nat → Q4
  | 0 => v
  | k + 1 => (rndK v k).rnd
def KyX (a b : UInt64) (w : World) (x y : Value) (w' : World) : Prop := x = .int .u64 a.toNat ∧ y = .int .u64 b.toNat ∧ Ext w w'

set_option maxRecDepth 100000 in
set_option maxHeartbeats 32000000 in
theorem tag_any (key s : Bts) (w : World) (hk : key.length = 16) (hs : s.length ≤ 65536) :
    Calls Tryz.prog 207 #[strV key, strV s] w fun e w' => e = .returned (strV (tagB key s)) ∧ Ext w w' := by
  obtain ⟨kd, hkd⟩ : ∃ kd, key.drop 8 = kd := ⟨_, rfl⟩
  have hd8 : kd.length = 8 := by rw [← hkd, List.length_drop, hk]
  have Hk := Lib.hid (show key.length = 16 from hk)
  have Hd := Lib.hid hd8
  have HT := Lib.hid (show tagB key s = wby ((wordsL s).foldl Q4.word (q0 key)).fin from rfl)
  have hq0 : q0 key = ⟨wrd key ^^^ 0x736f6d6570736575, wrd kd ^^^ 0x646f72616e646f6d, wrd key ^^^ 0x6c7967656e657261, wrd kd ^^^ 0x7465646279746573⟩ := by rw [← hkd]; rfl
  have q8 : ∀ w, (Instr.slice 9 (strV key) (some (.int .i64 8)) none none).run Tryz.prog w = .ok (strV kd) w := fun w => by
    rw [← hkd]
    exact slice_from 9 key 8 Tryz.underlying9 (by omega) w
  obtain ⟨ka, hka⟩ : ∃ ka : ByteArray, ⟨key.toArray⟩ = ka := ⟨_, rfl⟩
  obtain ⟨kb, hkb⟩ : ∃ kb : ByteArray, ⟨kd.toArray⟩ = kb := ⟨_, rfl⟩
  have ksz : ka.size = 16 := by rw [← hka, bsize_mk, hk]
  have kex : ka.extract 8 16 = kb := by
    rw [← hka, ← hkb, ← hkd, ByteArray.extract_mk]
    rw [List.take_of_length_le (by rw [List.length_drop, hk]; omega)]
  unfold strV at q8
  rw [hka, hkb] at q8
  have f2 := fun w => words_any s w
  have hs3 := fun B S w kb hB hS => words_stops B S s w hs kb hB hS
  obtain ⟨sv, hsv⟩ : ∃ sv, strV s = sv := ⟨_, rfl⟩
  rw [hsv] at f2 hs3 ⊢
  rw [show strV key = .string ka by unfold strV; rw [hka]]
  obtain ⟨ra, hra⟩ : ∃ ra, wrd key = ra := ⟨_, rfl⟩
  obtain ⟨rb, hrb⟩ : ∃ rb, wrd kd = rb := ⟨_, rfl⟩
  rw [hra, hrb] at hq0
  have HKA := Lib.hid hra
  have HKB := Lib.hid hrb
  obtain ⟨a0, ha0⟩ : ∃ x, ra ^^^ 0x736f6d6570736575 = x := ⟨_, rfl⟩
  obtain ⟨b0, hb0⟩ : ∃ x, rb ^^^ 0x646f72616e646f6d = x := ⟨_, rfl⟩
  obtain ⟨c0, hc0⟩ : ∃ x, ra ^^^ 0x6c7967656e657261 = x := ⟨_, rfl⟩
  obtain ⟨d0, hd0⟩ : ∃ x, rb ^^^ 0x7465646279746573 = x := ⟨_, rfl⟩
  have x1 : bits .xor .u64 (ra.toNat : Int) 8317987319222330741 = (a0.toNat : Int) := by rw [← ha0]; exact u64_xor ra 0x736f6d6570736575
  have x2 : bits .xor .u64 (rb.toNat : Int) 7237128888997146477 = (b0.toNat : Int) := by rw [← hb0]; exact u64_xor rb 0x646f72616e646f6d
  have x3 : bits .xor .u64 (ra.toNat : Int) 7816392313619706465 = (c0.toNat : Int) := by rw [← hc0]; exact u64_xor ra 0x6c7967656e657261
  have x4 : bits .xor .u64 (rb.toNat : Int) 8387220255154660723 = (d0.toNat : Int) := by rw [← hd0]; exact u64_xor rb 0x7465646279746573
  rw [ha0, hb0, hc0, hd0] at hq0
  rw [hq0] at HT
  clear hsv hkd hk hd8 ha0 hb0 hc0 hd0 hq0 hra hrb hs
  refine (callsIn_wide (n := 5)).1 ?_
  refine callsIn_of_wp_marks Tryz.func207 rfl trivial ?_ rfl
  refine wpIn_wide.2 ?_
  refine Code.wp_mono NoPanic.imp ?_
  simp only [Tryz.ntmps207, List.size_toArray, List.length_cons, List.length_nil, Nat.reduceAdd, Nat.reduceSub, Array.replicate_succ, Array.replicate_zero, List.push_toArray, List.append_toArray, List.nil_append, List.cons_append]
  go_wp2_with fail
  go_cut [5, 6] from 9 to 16 (fun x y wx => KyX ra rb w x y wx)
  case first =>
    refine wp_region_P (fun _ => false) (fun w' => Ext w w') (by kernel_rfl) (Ext.refl w).drew (fun _ => ?_)
    refine wpAnyP_takeT (i := 0) (v := ?_) rfl (by kernel_rfl) (by kernel_rfl) (by kernel_rfl) (fun _ _ _ h => h) (Or.inl ⟨by rfl, ?_⟩) ?_
    rotate_left
    · intro w'
      go_simp
      first | done | with_reducible rfl
    try simp only [Act.put, List.setIfInBounds_toArray, List.set_cons_zero, List.set_cons_succ]
    refine wpAnyP_takeT (i := 3) (v := ?_) rfl (by kernel_rfl) (by kernel_rfl) (by kernel_rfl) (fun _ _ _ h => h) (Or.inl ⟨by rfl, ?_⟩) ?_
    rotate_left
    · intro w'
      go_simp
      first | done | with_reducible rfl
    try simp only [Act.put, List.setIfInBounds_toArray, List.set_cons_zero, List.set_cons_succ]
    refine wpAnyP_takeT (i := 4) (v := ?_) rfl (by kernel_rfl) (by kernel_rfl) (by kernel_rfl) (fun _ _ _ h => h) (Or.inl ⟨by rfl, ?_⟩) ?_
    rotate_left
    · intro w'
      go_simp
      first | done | with_reducible rfl
    try simp only [Act.put, List.setIfInBounds_toArray, List.set_cons_zero, List.set_cons_succ]
    refine wpAnyP_ready (rs := [1, 5]) (by kernel_rfl) (by simp) ?_
    refine AllReadyP.cons rfl (fun K hK => ?_) (AllReadyP.cons rfl (fun K hK => ?_) AllReadyP.nil)
    · obtain ⟨c1, w1, q1, ho1, hx1, -⟩ := conv_bytes (P := Tryz.prog) w.drew 9 22 5 key Tryz.underlying9 Tryz.underlying22 Tryz.underlying5 (by have := Hk.out; have := Hd.out; omega)
      unfold strV at q1
      rw [hka] at q1
      have hr1 := ho1.rdB
      go_simp
      refine hK.out _ _ (fun _ _ => ((Ext.refl w).drew).trans hx1) ?_
      clear hK K
      refine wpAnyP_ready (rs := [2, 5]) (by kernel_rfl) (by simp) ?_
      refine AllReadyP.cons rfl (fun K hK => ?_) (AllReadyP.cons rfl (fun K hK => ?_) AllReadyP.nil)
      · go_simp
        refine (word_any _ _ key w1 hr1 (by have := Hk.out; have := Hd.out; omega)).mono ?_
        rintro e w9 ⟨rfl, rfl⟩
        refine hK.out _ _ (fun _ h => h) ?_
        clear hK K
        refine wpAnyP_ready (rs := [5]) (by kernel_rfl) (by simp) ?_
        refine AllReadyP.cons rfl (fun K hK => ?_) AllReadyP.nil
        obtain ⟨c3, w3, q3, ho3, hx3, -⟩ := conv_bytes (P := Tryz.prog) w1 9 22 5 kd Tryz.underlying9 Tryz.underlying22 Tryz.underlying5 (by have := Hk.out; have := Hd.out; omega)
        unfold strV at q3
        rw [hkb] at q3
        have hr3 := ho3.rdB
        go_simp
        refine hK.out _ _ (fun _ _ => ((((Ext.refl w).drew).trans hx1)).trans hx3) ?_
        clear hK K
        have hs3 := Rd.ext hr1 hx3
        refine wpAnyP_ready (rs := [6]) (by kernel_rfl) (by simp) ?_
        refine AllReadyP.cons rfl (fun K hK => ?_) AllReadyP.nil
        go_simp
        refine (word_any _ _ kd w3 hr3 (by have := Hk.out; have := Hd.out; omega)).mono ?_
        rintro e w9 ⟨rfl, rfl⟩
        refine hK.out _ _ (fun _ h => h) ?_
        clear hK K
        refine wpAnyP_takeT (i := 7) (v := ?_) rfl (by kernel_rfl) (by kernel_rfl) (by kernel_rfl) (fun _ _ _ h => h) (Or.inl ⟨by rfl, ?_⟩) ?_
        rotate_left
        · intro w'
          go_simp
          first | done | with_reducible rfl
        try simp only [Act.put, List.setIfInBounds_toArray, List.set_cons_zero, List.set_cons_succ]
        refine wpAnyP_takeT (i := 8) (v := ?_) rfl (by kernel_rfl) (by kernel_rfl) (by kernel_rfl) (fun _ _ _ h => h) (Or.inl ⟨by rfl, ?_⟩) ?_
        rotate_left
        · intro w'
          go_simp
          first | done | with_reducible rfl
        try simp only [Act.put, List.setIfInBounds_toArray, List.set_cons_zero, List.set_cons_succ]
        simp only [List.getElem_toArray, List.getElem_cons_succ, List.getElem_cons_zero, Act.put, List.setIfInBounds_toArray, List.set_cons_zero, List.set_cons_succ]
        refine wpAnyP_done (by kernel_rfl) ?_ _
        go_wp2
        go_meet
        exact ⟨by rw [HKA.out], by rw [HKB.out], (((((Ext.refl w).drew).trans hx1)).trans hx3)⟩
      · obtain ⟨c5, w5, q5, ho5, hx5, -⟩ := conv_bytes (P := Tryz.prog) w1 9 22 5 kd Tryz.underlying9 Tryz.underlying22 Tryz.underlying5 (by have := Hk.out; have := Hd.out; omega)
        unfold strV at q5
        rw [hkb] at q5
        have hr5 := ho5.rdB
        go_simp
        refine hK.out _ _ (fun _ _ => ((((Ext.refl w).drew).trans hx1)).trans hx5) ?_
        clear hK K
        have hs5 := Rd.ext hr1 hx5
        refine wpAnyP_ready (rs := [2]) (by kernel_rfl) (by simp) ?_
        refine AllReadyP.cons rfl (fun K hK => ?_) AllReadyP.nil
        go_simp
        refine (word_any _ _ key w5 hs5 (by have := Hk.out; have := Hd.out; omega)).mono ?_
        rintro e w9 ⟨rfl, rfl⟩
        refine hK.out _ _ (fun _ h => h) ?_
        clear hK K
        refine wpAnyP_ready (rs := [6]) (by kernel_rfl) (by simp) ?_
        refine AllReadyP.cons rfl (fun K hK => ?_) AllReadyP.nil
        go_simp
        refine (word_any _ _ kd w5 hr5 (by have := Hk.out; have := Hd.out; omega)).mono ?_
        rintro e w9 ⟨rfl, rfl⟩
        refine hK.out _ _ (fun _ h => h) ?_
        clear hK K
        refine wpAnyP_takeT (i := 7) (v := ?_) rfl (by kernel_rfl) (by kernel_rfl) (by kernel_rfl) (fun _ _ _ h => h) (Or.inl ⟨by rfl, ?_⟩) ?_
        rotate_left
        · intro w'
          go_simp
          first | done | with_reducible rfl
        try simp only [Act.put, List.setIfInBounds_toArray, List.set_cons_zero, List.set_cons_succ]
        refine wpAnyP_takeT (i := 8) (v := ?_) rfl (by kernel_rfl) (by kernel_rfl) (by kernel_rfl) (fun _ _ _ h => h) (Or.inl ⟨by rfl, ?_⟩) ?_
        rotate_left
        · intro w'
          go_simp
          first | done | with_reducible rfl
        try simp only [Act.put, List.setIfInBounds_toArray, List.set_cons_zero, List.set_cons_succ]
        simp only [List.getElem_toArray, List.getElem_cons_succ, List.getElem_cons_zero, Act.put, List.setIfInBounds_toArray, List.set_cons_zero, List.set_cons_succ]
        refine wpAnyP_done (by kernel_rfl) ?_ _
        go_wp2
        go_meet
        exact ⟨by rw [HKA.out], by rw [HKB.out], (((((Ext.refl w).drew).trans hx1)).trans hx5)⟩
    · obtain ⟨c8, w8, q8, ho8, hx8, -⟩ := conv_bytes (P := Tryz.prog) w.drew 9 22 5 kd Tryz.underlying9 Tryz.underlying22 Tryz.underlying5 (by have := Hk.out; have := Hd.out; omega)
      unfold strV at q8
      rw [hkb] at q8
      have hr8 := ho8.rdB
      go_simp
      refine hK.out _ _ (fun _ _ => ((Ext.refl w).drew).trans hx8) ?_
      clear hK K
      refine wpAnyP_ready (rs := [1]) (by kernel_rfl) (by simp) ?_
      refine AllReadyP.cons rfl (fun K hK => ?_) AllReadyP.nil
      obtain ⟨c9, w9, q9, ho9, hx9, -⟩ := conv_bytes (P := Tryz.prog) w8 9 22 5 key Tryz.underlying9 Tryz.underlying22 Tryz.underlying5 (by have := Hk.out; have := Hd.out; omega)
      unfold strV at q9
      rw [hka] at q9
      have hr9 := ho9.rdB
      go_simp
      refine hK.out _ _ (fun _ _ => ((((Ext.refl w).drew).trans hx8)).trans hx9) ?_
      clear hK K
      have hs9 := Rd.ext hr8 hx9
      refine wpAnyP_ready (rs := [2]) (by kernel_rfl) (by simp) ?_
      refine AllReadyP.cons rfl (fun K hK => ?_) AllReadyP.nil
      go_simp
      refine (word_any _ _ key w9 hr9 (by have := Hk.out; have := Hd.out; omega)).mono ?_
      rintro e w9 ⟨rfl, rfl⟩
      refine hK.out _ _ (fun _ h => h) ?_
      clear hK K
      refine wpAnyP_ready (rs := [6]) (by kernel_rfl) (by simp) ?_
      refine AllReadyP.cons rfl (fun K hK => ?_) AllReadyP.nil
      go_simp
      refine (word_any _ _ kd w9 hs9 (by have := Hk.out; have := Hd.out; omega)).mono ?_
      rintro e w9 ⟨rfl, rfl⟩
      refine hK.out _ _ (fun _ h => h) ?_
      clear hK K
      refine wpAnyP_takeT (i := 7) (v := ?_) rfl (by kernel_rfl) (by kernel_rfl) (by kernel_rfl) (fun _ _ _ h => h) (Or.inl ⟨by rfl, ?_⟩) ?_
      rotate_left
      · intro w'
        go_simp
        first | done | with_reducible rfl
      try simp only [Act.put, List.setIfInBounds_toArray, List.set_cons_zero, List.set_cons_succ]
      refine wpAnyP_takeT (i := 8) (v := ?_) rfl (by kernel_rfl) (by kernel_rfl) (by kernel_rfl) (fun _ _ _ h => h) (Or.inl ⟨by rfl, ?_⟩) ?_
      rotate_left
      · intro w'
        go_simp
        first | done | with_reducible rfl
      try simp only [Act.put, List.setIfInBounds_toArray, List.set_cons_zero, List.set_cons_succ]
      simp only [List.getElem_toArray, List.getElem_cons_succ, List.getElem_cons_zero, Act.put, List.setIfInBounds_toArray, List.set_cons_zero, List.set_cons_succ]
      refine wpAnyP_done (by kernel_rfl) ?_ _
      go_wp2
      go_meet
      exact ⟨by rw [HKA.out], by rw [HKB.out], (((((Ext.refl w).drew).trans hx8)).trans hx9)⟩
  case rest =>
    obtain ⟨rfl, rfl, hE⟩ := hcut
    clear kex ksz q8 hka hkb
    obtain ⟨W3, hW3, hB3, hk3, hl3⟩ := box1 wc #[.int .u64 (a0.toNat : Int), .int .u64 (b0.toNat : Int), .int .u64 (c0.toNat : Int), .int .u64 (d0.toNat : Int)] 391
    go_wp2_with fail
    clear hW3
    refine (f2 _).mono ?_
    clear f2
    rintro e w8 ⟨rfl, hb8, hs8, z1⟩
    go_wp2_with fail
    have hw0 := hE.size
    have hw3 := hB3.size
    have hw8 := hb8.size
    have hl8 := (hk3.ext hb8).lt
    refine (wpIn_wide (n := 5)).1 ?_
    refine wpIn_rangeFunc_ownH rfl (by omega) (gf := 316) (lb := #[.pointer (some ⟨W3.heap.size, 0, none⟩)]) rfl trivial (enters_of Tryz.func316 (by kernel_rfl) rfl)
      (hs3 W3.heap.size (fun b => b = wc.heap.size) w8 z1 (by omega) (fun k hk => by subst hk; omega))
      KpQ.trans (fun W l o o' hl h1 h2 h3 => KpQ.put W l o o' h1 h2) (Below.refl _ _) (fun _ => rfl)
      (QRl ⟨a0, b0, c0, d0⟩ wc.heap.size w8.heap.size w) (fun _ _ _ => False) (qrl_own (by omega)) (fun _ _ _ _ _ hs _ _ => hs)
      ⟨hk3.ext hb8, (hE.trans hB3).trans hb8, Nat.le_refl _⟩
      (fun x a' _ => a' = { tmps := #[.string ka, sv, undef, undef, .string ⟨#[]⟩, .int .u64 (ra.toNat : Int), .int .u64 (rb.toNat : Int), .pointer (some ⟨wc.heap.size, 0, none⟩), .int .u64 (x.toNat : Int), u9, u10, u11, u12, u13, u14, u15, .int .u64 (ra.toNat : Int), .int .u64 (a0.toNat : Int), .int .u64 (rb.toNat : Int), .int .u64 (b0.toNat : Int), .int .u64 (ra.toNat : Int), .int .u64 (c0.toNat : Int), .int .u64 (rb.toNat : Int), .int .u64 (d0.toNat : Int), .agg #[.int .u64 (a0.toNat : Int), .int .u64 (b0.toNat : Int), .int .u64 (c0.toNat : Int), .int .u64 (d0.toNat : Int)], sv, .func (.func 316) #[] #[.pointer (some ⟨W3.heap.size, 0, none⟩)], .int .u64 (x.toNat : Int), undef, undef, undef, undef, undef, undef, undef, undef, undef, undef, undef, undef, undef, undef, undef, undef, undef, undef, undef, undef, undef, undef, undef, undef, undef, undef, undef, undef, undef, undef, undef, undef, undef], defers := [] }) (fun _ _ _ _ _ _ hs _ _ => hs) ?assign ?body ?done ?stop
    case assign =>
      rintro li pre x W K hi hK
      simp only [wdV]
      gi_wp2
      exact hK _ _ (KeepsFrom.refl _ _) (KpQ.refl _ _) hi rfl
    case body =>
      rintro li pre x a' W hl _ hC rfl hlen
      obtain ⟨h1, h3, h4⟩ := id hC
      have hsn : (pre ++ [x]).foldl Q4.word ⟨a0, b0, c0, d0⟩ = (pre.foldl Q4.word ⟨a0, b0, c0, d0⟩).word x := by rw [List.foldl_append]; rfl
      obtain ⟨v, hv⟩ : ∃ v, pre.foldl Q4.word ⟨a0, b0, c0, d0⟩ = v := ⟨_, rfl⟩
      rw [hv] at h1 hsn
      obtain ⟨a, b, c, d⟩ := v
      obtain ⟨d1, hd1⟩ : ∃ d1, d ^^^ x = d1 := ⟨_, rfl⟩
      have y1 : bits .xor .u64 (d.toNat : Int) (x.toNat : Int) = (d1.toNat : Int) := by rw [u64_xor, hd1]
      obtain ⟨v2, hv2⟩ : ∃ v2, Q4.rnd ⟨a, b, c, d1⟩ = v2 := ⟨_, rfl⟩
      obtain ⟨v3, hv3⟩ : ∃ v3, Q4.rnd v2 = v3 := ⟨_, rfl⟩
      obtain ⟨a3, b3, c3, d3⟩ := v3
      obtain ⟨a4, ha4⟩ : ∃ a4, a3 ^^^ x = a4 := ⟨_, rfl⟩
      have y2 : bits .xor .u64 (a3.toNat : Int) (x.toNat : Int) = (a4.toNat : Int) := by rw [u64_xor, ha4]
      have hwd : (Q4.mk a b c d).word x = ⟨a4, b3, c3, d3⟩ := by
        unfold Q4.word
        dsimp only
        rw [hd1, hv2, hv3]
        dsimp only
        rw [ha4]
      rw [hwd] at hsn
      have PUT0 := Lib.hid (fun W' hk hg => qrl_put (x := x) (W' := W') hC (show w.heap.size ≤ wc.heap.size by omega) hk hg)
      have HSN := Lib.hid hsn
      clear hC hsn hv hd1 ha4 hwd
      dsimp only [Q4.cells] at h1
      have m1 := h1.cell
      have m2 := h1.lt
      have m3 := h1.frozen
      have k1 : Blk (W.setCell ⟨wc.heap.size, 3, none⟩ (.int .u64 (d1.toNat : Int))) wc.heap.size 391 (Q4.cells ⟨a, b, c, d1⟩) := h1.set_ 3 _
      have g1 := grown_setCell (World.grownBy.refl W (some wc.heap.size)) 3 (.int .u64 (d1.toNat : Int))
      have HV2 := Lib.hid hv2
      have HV3 := Lib.hid hv3
      clear hv2 hv3
      gi_wp2_with (refine ⟨trivial, ?_⟩; gi_at_call 271; first | (refine (CallsIn.inRound _ (callsIn_wide.2 (round_any wc.heap.size v2 _ k2))).mono ?_; rintro e W3 ⟨⟨r3, rfl⟩, k3, g3⟩; rw [HV3.out] at k3; dsimp only [Q4.cells] at k3; have n1 := k3.cell; have n2 := k3.lt; have n3 := k3.frozen) | (refine (CallsIn.inRound _ (callsIn_wide.2 (round_any wc.heap.size ⟨a, b, c, d1⟩ _ k1))).mono ?_; rintro e W2 ⟨⟨r2, rfl⟩, k2, g2⟩; rw [HV2.out] at k2))
      exact PUT0.out _ (by rw [HSN.out]; exact k3.set_ 0 _) (grown_setCell (grown_trans g1 (grown_trans g2 g3)) 0 _)
    case stop =>
      rintro D c pre W _ _ h _
      exact h.elim
    case done =>
      rintro D xs W hDD hF ⟨h1, h3, h4⟩ hK
      obtain rfl : xs = wordsL s := hF
      have hw3s := h3.size
      have hd2 := (DSx.nil w8.heap.size w.heap.size W).cons hDD (by omega) hK
      clear hK
      obtain ⟨v, hv⟩ : ∃ v, (wordsL s).foldl Q4.word ⟨a0, b0, c0, d0⟩ = v := ⟨_, rfl⟩
      have HT2 : tagB key s = wby v.fin := by rw [HT.out, hv]
      rw [hv] at h1
      have hfin : v.fin = (rndK { v with c := v.c ^^^ 255 } 4).a ^^^ (rndK { v with c := v.c ^^^ 255 } 4).b ^^^ (rndK { v with c := v.c ^^^ 255 } 4).c ^^^ (rndK { v with c := v.c ^^^ 255 } 4).d := rfl
      obtain ⟨a, b, c, d⟩ := v
      dsimp only at hfin
      obtain ⟨c1, hc1⟩ : ∃ c1, c ^^^ 255 = c1 := ⟨_, rfl⟩
      have y1 : bits .xor .u64 (c.toNat : Int) 255 = (c1.toNat : Int) := by rw [← hc1]; exact u64_xor c 255
      rw [hc1] at hfin
      obtain ⟨v1, hv1⟩ : ∃ v1, Q4.mk a b c1 d = v1 := ⟨_, rfl⟩
      rw [hv1] at hfin
      rw [hfin] at HT2
      have HT3 := Lib.hid HT2
      dsimp only [Q4.cells] at h1
      have m1 := h1.cell
      have m2 := h1.lt
      have m3 := h1.frozen
      have k1 : Blk (W.setCell ⟨wc.heap.size, 2, none⟩ (.int .u64 (c1.toNat : Int))) wc.heap.size 391 (Q4.cells ⟨a, b, c1, d⟩) := h1.set_ 2 _
      have g1 := grown_setCell (World.grownBy.refl W (some wc.heap.size)) 2 (.int .u64 (c1.toNat : Int))
      rw [hv1] at k1
      obtain ⟨WA, hWA⟩ : ∃ WA, W.setCell ⟨wc.heap.size, 2, none⟩ (.int .u64 (c1.toNat : Int)) = WA := ⟨_, rfl⟩
      rw [hWA] at k1 g1
      have hko : KeepsOthers W WA := by rw [← hWA]; exact KeepsOthers.setCell _ _ _
      have hd3 := hd2.keeps hko
      have hE3 := h3.keptb g1 (fun r e => by injection e with e; omega)
      have hA4 := g1.size
      clear hfin hv hv1 hc1 HT2 HT hd2 hko
      go_wp2_with fail
      clear hWA m1 m2 m3 y1 h1
      go_loopg [44] 4 (fun n i wr => ∃ k : Nat, k + n = 4 ∧ i = .int .i64 k ∧ Blk wr wc.heap.size 391 (rndK v1 k).cells ∧ WA.grownBy wr (some wc.heap.size))
      case atStart => exact ⟨0, rfl, by go_num, k1, World.grownBy.refl _ _⟩
      case round =>
        obtain ⟨k, hkn, rfl, hkb, hg⟩ := hrel
        have Hkn := Lib.hid hkn
        have hk4 : k ≤ 4 := by omega
        clear hkn
        by_cases hlt : k < 4
        · go_wp2_with fail
          refine (round_any wc.heap.size (rndK v1 k) _ hkb).mono ?_
          rintro e w9 ⟨⟨r9, rfl⟩, k9, g9⟩
          go_wp2
          go_roundg (gk - 1)
          case measure => have := Hkn.out; omega
          case rel => exact ⟨k + 1, by have := Hkn.out; omega, by go_num, k9, grown_trans hg g9⟩
        · obtain rfl : k = 4 := by omega
          obtain ⟨v9, hv9⟩ : ∃ v9, rndK v1 4 = v9 := ⟨_, rfl⟩
          have HT4 := Lib.hid (HT3.out)
          rw [hv9] at hkb HT4
          obtain ⟨a9, b9, c9, d9⟩ := v9
          dsimp only at HT4
          obtain ⟨x9, hx9⟩ : ∃ x, a9 ^^^ b9 = x := ⟨_, rfl⟩
          obtain ⟨y9, hy9⟩ : ∃ x, x9 ^^^ c9 = x := ⟨_, rfl⟩
          obtain ⟨z9, hz9⟩ : ∃ x, y9 ^^^ d9 = x := ⟨_, rfl⟩
          have p1 : bits .xor .u64 (a9.toNat : Int) (b9.toNat : Int) = (x9.toNat : Int) := by rw [u64_xor, hx9]
          have p2 : bits .xor .u64 (x9.toNat : Int) (c9.toNat : Int) = (y9.toNat : Int) := by rw [u64_xor, hy9]
          have p3 : bits .xor .u64 (y9.toNat : Int) (d9.toNat : Int) = (z9.toNat : Int) := by rw [u64_xor, hz9]
          rw [hx9, hy9, hz9] at HT4
          have fa := fun w => appendWord_any (.slice none 0 0) [] z9 wr.heap.size w (Owns.none_ _ _) (by simp)
          have hd4 := hd3.keeps (KeepsOthers.of_grownBy hg (fun j o e ho => by
            injection e with e
            subst e
            have h9 : WA.heap[wc.heap.size]? = some (.cells _ _ (0, 0)) := k1
            rw [h9] at ho
            injection ho with ho
            subst ho
            rfl))
          have hE4 := hE3.keptb hg (fun r e => by injection e with e; omega)
          have HP := Lib.hid hx9
          dsimp only [Q4.cells] at hkb
          have m1 := hkb.cell
          have m2 := hkb.lt
          clear hx9 hy9 hz9 hv9 hd3 hE3 hg k1
          go_wp2_with fail
          refine (fa _ (Nat.le_refl _)).mono ?_
          clear fa
          rintro e w9 ⟨u9, rfl, ho9, hg9⟩
          rw [List.nil_append] at ho9
          have hx9 : Ext wr w9 := (Ext.refl wr).keptb hg9 (fun r e => by simp [Value.ownBlock] at e)
          have hd5 := hd4.ext hx9
          have hE5 := hE4.trans hx9
          obtain ⟨A9, e9, rfl, hR9⟩ := ho9.form
          have q1 := conv_str (P := Tryz.prog) w9 22 9 5 A9 e9 (wby z9) Tryz.underlying22 Tryz.underlying5 Tryz.underlying9 hR9
          clear m1 m2 hkb hg9 ho9 hd4
          go_wp2_with fail
          show LeavesInM _ _ _ _ _ _ _ .returning _
          refine hd5.leaves ?_
          intro w' hw'
          have hfin := hw' (fun W => Ext w W) (fun s X Y row hs hg hr => hs.keptb hg (fun r e => (hr r e).1)) hE5
          exact ⟨_, results_tmp rfl _ _ _, by rw [HT4.out]; rfl, hfin⟩

end Go.Proofs.YtemkpimngbbpkaaGreat

namespace Go.Proofs.YtemkpimngbbpkaaGreat
set_option linter.unusedVariables false
set_option linter.unusedSimpArgs false
set_option linter.unusedVariables false
set_option linter.unusedSimpArgs false
open Go.RowKit Go.Shelf
attribute [local go_sem] Oper.semAt_some

set_option maxHeartbeats 1000000 in
theorem Sum_any (s : Bts) (w : World) (h : s.length ≤ 1000000) :
    Calls Tryz.prog 251 #[strV s] w fun e w' => e = .returned (.int .i64 (crcS s).toNat) ∧ Ext w w' := by
  have f1 := fun w => update_any 4294967295 s w h
  have q1 := u32_xor (crcU 4294967295 s) 4294967295
  obtain ⟨n, hn⟩ : ∃ n, crcS s = n := ⟨_, rfl⟩
  have hn2 : crcU 4294967295 s ^^^ 4294967295 = n := hn
  rw [hn2] at q1
  rw [hn]
  generalize crcU 4294967295 s = u at *
  rw [show (((4294967295 : UInt32).toNat : Nat) : Int) = 4294967295 from rfl] at *
  have q2 : (n.toNat : Int) < 4294967296 := by have := u32lt n; omega
  obtain ⟨sv, hsv⟩ : ∃ sv, strV s = sv := ⟨_, rfl⟩
  rw [hsv] at f1 ⊢
  clear hsv hn hn2
  go_enter Tryz.func251, Tryz.ntmps251
  go_wp2_with fail
  refine (f1 _).mono ?_
  clear f1
  rintro e w1 ⟨rfl, hb1⟩
  go_wp2
  go_ret
  exact ⟨rfl, hb1⟩

set_option maxRecDepth 100000 in
set_option maxHeartbeats 4000000 in
theorem tail_any (s : Bts) (w : World) (h : s.length ≤ 1000000) :
    Calls Tryz.prog 189 #[strV s] w fun e w' => e = .returned (strV (ctail s)) ∧ Ext w w' := by
  have f1 := fun w => Sum_any s w h
  have HT := Lib.hid (show ctail s = [(crcS s).toUInt8, (crcS s >>> 8).toUInt8, (crcS s >>> 16).toUInt8, (crcS s >>> 24).toUInt8] from rfl)
  generalize crcS s = n at *
  have hsh : ∀ k : Nat, k < 32 → ((n >>> (UInt32.ofNat k)).toNat) = n.toNat / 2 ^ k := fun k hk => by
    rw [UInt32.toNat_shiftRight, Nat.shiftRight_eq_div_pow, UInt32.toNat_ofNat']
    congr 2
    omega
  have h8 := hsh 8 (by omega)
  have h16 := hsh 16 (by omega)
  have h24 := hsh 24 (by omega)
  obtain ⟨m1, e1⟩ : ∃ m, n >>> 8 = m := ⟨_, rfl⟩
  obtain ⟨m2, e2⟩ : ∃ m, n >>> 16 = m := ⟨_, rfl⟩
  obtain ⟨m3, e3⟩ : ∃ m, n >>> 24 = m := ⟨_, rfl⟩
  rw [e1, e2, e3] at HT
  have h8 : m1.toNat = n.toNat / 256 := by rw [← e1]; exact h8
  have h16 : m2.toNat = n.toNat / 65536 := by rw [← e2]; exact h16
  have h24 : m3.toNat = n.toNat / 16777216 := by rw [← e3]; exact h24
  have hw : ∀ (x : UInt32) (k : UInt8), x.toUInt8 = k → IntKind.u8.wrap (x.toNat : Int) = (k.toNat : Int) := fun x k hk => by rw [IntKind.wrap_u8', ← hk]; rfl
  obtain ⟨n0, g0⟩ : ∃ k, n.toUInt8 = k := ⟨_, rfl⟩
  obtain ⟨n1, g1⟩ : ∃ k, m1.toUInt8 = k := ⟨_, rfl⟩
  obtain ⟨n2, g2⟩ : ∃ k, m2.toUInt8 = k := ⟨_, rfl⟩
  obtain ⟨n3, g3⟩ : ∃ k, m3.toUInt8 = k := ⟨_, rfl⟩
  have p0 := hw _ _ g0
  have p1 := hw _ _ g1
  have p2 := hw _ _ g2
  have p3 := hw _ _ g3
  rw [g0, g1, g2, g3] at HT
  have s1 : (n.toNat : Int) / 256 = (m1.toNat : Int) := by rw [h8]; rfl
  have s2 : (n.toNat : Int) / 65536 = (m2.toNat : Int) := by rw [h16]; rfl
  have s3 : (n.toNat : Int) / 16777216 = (m3.toNat : Int) := by rw [h24]; rfl
  obtain ⟨sv, hsv⟩ : ∃ sv, strV s = sv := ⟨_, rfl⟩
  rw [hsv] at f1 ⊢
  clear hsv e1 e2 e3 g0 g1 g2 g3 hw hsh h8 h16 h24
  go_enter Tryz.func189, Tryz.ntmps189
  go_wp2_with fail
  refine (f1 _).mono ?_
  clear f1
  rintro e w1 ⟨rfl, hb1⟩
  obtain ⟨W2, hW2, hB2, hk2, hl2⟩ := box1 w1 #[.int .u8 (n0.toNat : Int), .int .u8 (n1.toNat : Int), .int .u8 (n2.toNat : Int), .int .u8 (n3.toNat : Int)] 5
  have hR : Rd EB W2 (some ⟨w1.heap.size, 0, none⟩) [n0, n1, n2, n3] := rd_blk hk2
  have q1 := conv_str (P := Tryz.prog) W2 22 9 5 (some ⟨w1.heap.size, 0, none⟩) 4 [n0, n1, n2, n3] Tryz.underlying22 Tryz.underlying5 Tryz.underlying9 hR
  simp only [List.length_cons, List.length_nil, Nat.zero_add, Nat.reduceAdd] at q1
  obtain ⟨tv, htv⟩ : ∃ tv, strV [n0, n1, n2, n3] = tv := ⟨_, rfl⟩
  have HTV := Lib.hid htv
  rw [htv] at q1
  clear htv
  go_wp2
  go_ret
  exact ⟨by rw [HT.out, HTV.out]; rfl, hb1.trans hB2⟩

set_option maxRecDepth 100000 in
set_option maxHeartbeats 4000000 in
theorem Seal_any (s : Bts) (w : World) (h : s.length ≤ 65536) :
    Calls Tryz.prog 108 #[strV s] w fun e w' => e = .returned (.tuple #[strV (sealB s), .int .i64 0]) ∧ Ext w w' := by
  have f1 := fun w => Text_any s w h
  have hv := vint_len (s.length : Int)
  have f2 := fun w => tail_any (vtext s) w (by unfold vtext; rw [List.length_append]; omega)
  have HS := Lib.hid (show sealB s = vtext s ++ ctail (vtext s) from rfl)
  have hle : (vtext s).length + (ctail (vtext s)).length ≤ 9223372036854775807 := by
    unfold vtext ctail
    simp only [List.length_append, List.length_cons, List.length_nil]
    omega
  have q := bap (vtext s) (ctail (vtext s))
  generalize vtext s = t at *
  generalize ctail t = c at *
  have HSv := Lib.hid (show strV (sealB s) = .string ⟨(t ++ c).toArray⟩ by rw [HS.out]; rfl)
  rw [HSv.out]
  generalize strV s = sv at *
  unfold strV at f1 f2
  go_enter Tryz.func108, Tryz.ntmps108
  go_wp2_with fail
  refine (f1 _).mono ?_
  clear f1
  rintro e w1 ⟨rfl, hb1⟩
  go_wp2_with fail
  refine (f2 _).mono ?_
  clear f2
  rintro e w2 ⟨rfl, hb2⟩
  go_wp2
  go_ret2
  exact ⟨rfl, hb1.trans hb2⟩

end Go.Proofs.YtemkpimngbbpkaaGreat

namespace Go.Proofs.YtemkpimngbbpkaaGreat
set_option linter.unusedVariables false
set_option linter.unusedSimpArgs false
set_option linter.unusedVariables false
set_option linter.unusedSimpArgs false
open Go.RowKit Go.Shelf
attribute [local go_sem] Oper.semAt_some

theorem sealB_len (s : Bts) : (sealB s).length ≤ s.length + 14 := by
  have := vint_len (s.length : Int)
  unfold sealB vtext ctail
  simp only [List.length_append, List.length_cons, List.length_nil]
  omega
theorem vtext_len (s : Bts) : (vtext s).length ≤ s.length + 10 := by
  have := vint_len (s.length : Int)
  unfold vtext
  rw [List.length_append]
  omega
theorem blErr_ok {b : Bl} (h : b.err = 0) : (1 ≤ b.kind ∧ b.kind ≤ 255) ∧ (0 ≤ b.flags ∧ b.flags ≤ 15) ∧ b.data.length ≤ 1024 := by
  unfold Bl.err at h
  split at h
  · omega
  · split at h
    · omega
    · split at h
      · omega
      · omega
theorem blEnc_len {b : Bl} (h : b.err = 0) : b.enc.length ≤ 1100 := by
  obtain ⟨_, _, h3⟩ := blErr_ok h
  unfold Bl.enc
  have h4 := sealB_len (vint b.kind ++ vint b.flags ++ vtext b.data)
  have h5 := vint_len b.kind
  have h6 := vint_len b.flags
  have h7 := vtext_len b.data
  simp only [List.length_append] at h4
  omega
theorem str_name (l : Bts) : ∃ ba : ByteArray, (⟨l.toArray⟩ : ByteArray) = ba ∧ strV l = .string ba ∧ ba.size = l.length := ⟨_, rfl, rfl, by show l.toArray.size = l.length; simp⟩

set_option maxRecDepth 100000 in
set_option maxHeartbeats 8000000 in
theorem blEnc_any (b : Bl) (w : World) (h : b.err = 0) :
    Calls Tryz.prog 188 #[.agg #[.int .i64 b.kind, .int .i64 b.flags, strV b.data]] w fun e w' => e = .returned (.tuple #[strV b.enc, .int .i64 0]) ∧ Ext w w' := by
  obtain ⟨h1, h2, h3⟩ := blErr_ok h
  have f0 := fun w => blChk_any b w
  rw [h] at f0
  have f1 := fun w => Int_any b.kind w ⟨by omega, by omega⟩
  have f2 := fun w => Int_any b.flags w ⟨by omega, by omega⟩
  have f3 := fun w => Text_any b.data w (by omega)
  have l1 := vint_len b.kind
  have l2 := vint_len b.flags
  have l3 := vtext_len b.data
  have f4 := fun w => Seal_any (vint b.kind ++ vint b.flags ++ vtext b.data) w (by simp only [List.length_append]; omega)
  have q1 := bap (vint b.kind) (vint b.flags)
  have q2 := bap (vint b.kind ++ vint b.flags) (vtext b.data)
  have HE := Lib.hid (show b.enc = sealB (vint b.kind ++ vint b.flags ++ vtext b.data) from rfl)
  obtain ⟨n1, hn1⟩ : ∃ l, vint b.kind = l := ⟨_, rfl⟩
  obtain ⟨n2, hn2⟩ : ∃ l, vint b.flags = l := ⟨_, rfl⟩
  obtain ⟨n3, hn3⟩ : ∃ l, vtext b.data = l := ⟨_, rfl⟩
  rw [hn1] at f1 l1 f4 q1 q2 HE
  rw [hn2] at f2 l2 f4 q1 q2 HE
  rw [hn3] at f3 l3 f4 q2 HE
  obtain ⟨a1, ha1, hv1, hs1⟩ := str_name n1
  obtain ⟨a2, ha2, hv2, hs2⟩ := str_name n2
  obtain ⟨a3, ha3, hv3, hs3⟩ := str_name n3
  obtain ⟨a4, ha4, hv4, hs4⟩ := str_name (n1 ++ n2)
  obtain ⟨a5, ha5, hv5, hs5⟩ := str_name (n1 ++ n2 ++ n3)
  rw [ha1, ha2, ha4] at q1
  rw [ha4, ha3, ha5] at q2
  rw [hv1] at f1
  rw [hv2] at f2
  rw [hv3] at f3
  rw [hv5] at f4
  have z1 : a1.size + a2.size ≤ 9223372036854775807 := by omega
  have z2 : a4.size + a3.size ≤ 9223372036854775807 := by rw [List.length_append] at hs4; omega
  obtain ⟨sv, hsv⟩ : ∃ sv, strV (sealB (n1 ++ n2 ++ n3)) = sv := ⟨_, rfl⟩
  rw [hsv] at f4
  have HV := Lib.hid (show strV b.enc = sv by rw [HE.out, hsv])
  obtain ⟨ba, hba, _⟩ := strV_str b.data
  rw [hba] at f0 f3 ⊢
  obtain ⟨W, hW, hB, hk, hlt⟩ := box1 w #[.int .i64 b.kind, .int .i64 b.flags, .string ba] 116
  have hc := hk.cell
  clear h l1 l2 l3 hn1 hn2 hn3 ha1 ha2 ha3 ha4 ha5 hv1 hv2 hv3 hv4 hv5 hs1 hs2 hs3 hs4 hs5 hsv hba h1 h2 h3
  rw [HV.out]
  go_enter Tryz.func188, Tryz.ntmps188
  go_wp2_with fail
  clear hW
  refine (f0 _).mono ?_
  rintro e w1 ⟨rfl, hb1⟩
  have hx1 := hb1
  have c1 := (hk.ext hx1).cell
  have e1 := (hk.ext hx1).lt
  clear hc
  go_wp2_with fail
  refine (f1 _).mono ?_
  rintro e w2 ⟨rfl, hb2⟩
  have hx2 := hx1.trans hb2
  have c2 := (hk.ext hx2).cell
  have e2 := (hk.ext hx2).lt
  clear c1 e1
  go_wp2_with fail
  refine (f2 _).mono ?_
  rintro e w3 ⟨rfl, hb3⟩
  have hx3 := hx2.trans hb3
  have c3 := (hk.ext hx3).cell
  have e3 := (hk.ext hx3).lt
  clear c2 e2
  go_wp2_with fail
  refine (f3 _).mono ?_
  rintro e w4 ⟨rfl, hb4⟩
  clear c3 e3
  go_wp2_with fail
  refine (f4 _).mono ?_
  rintro e w5 ⟨rfl, hb5⟩
  go_wp2
  go_ret2
  exact ⟨rfl, (hB.trans hx3).trans (hb4.trans hb5)⟩

def ptrs (B : Nat) : Array Value := #[.pointer (some ⟨B, 0, none⟩), .pointer (some ⟨B, 1, none⟩), .pointer (some ⟨B, 2, none⟩), .pointer (some ⟨B, 3, none⟩), .pointer (some ⟨B, 4, none⟩), .pointer (some ⟨B, 5, none⟩), .pointer (some ⟨B, 6, none⟩), .pointer (some ⟨B, 7, none⟩), .pointer (some ⟨B, 8, none⟩), .pointer (some ⟨B, 9, none⟩)]
theorem ptrs_sets (B : Nat) : arrSets #[.pointer none, .pointer none, .pointer none, .pointer none, .pointer none, .pointer none, .pointer none, .pointer none, .pointer none, .pointer none] 0 (ptrs B).toList = ptrs B := by
  simp [arrSets, ptrs]
theorem ptrs_index (B k : Nat) (hk : k < 10) (w : World) : (Instr.index 203 (.agg (ptrs B)) (.int .i64 (k : Int))).run Tryz.prog w = .ok (.pointer (some ⟨B, k, none⟩)) w := by
  have h : k = 0 ∨ k = 1 ∨ k = 2 ∨ k = 3 ∨ k = 4 ∨ k = 5 ∨ k = 6 ∨ k = 7 ∨ k = 8 ∨ k = 9 := by omega
  rcases h with rfl | rfl | rfl | rfl | rfl | rfl | rfl | rfl | rfl | rfl
  all_goals simp [Instr.index, run_underlying Tryz.underlying203, asIntOf, ptrs, part, go_sem, Tryz.sizeOf202]

set_option maxRecDepth 100000 in
set_option maxHeartbeats 8000000 in
theorem numbers_any (B : Nat) (w : World) (hB : B < w.heap.size) :
    Calls Tryz.prog 105 #[.pointer (some ⟨B, 0, none⟩)] w fun e w' => e = .returned (.agg (ptrs B)) ∧ Ext w w' := by
  obtain ⟨W, hW, hB1, hk, hlt⟩ := box1 w #[.pointer none, .pointer none, .pointer none, .pointer none, .pointer none, .pointer none, .pointer none, .pointer none, .pointer none, .pointer none] 203
  have hc := hk.cell
  have hf := hk.frozen
  have hBW : B < W.heap.size := Nat.lt_of_lt_of_le hB hB1.size
  go_enter Tryz.func105, Tryz.ntmps105
  go_wp2_with fail
  clear hW
  go_region
  have hS := Blk.ext (Blk.setCells_ (ptrs B).toList hk 0) (Ext.refl _).drew
  rw [ptrs_sets] at hS
  have hE : Ext w (W.setCells w.heap.size 0 (ptrs B).toList).drew := (ext_setCells hB1 (Nat.le_refl _) 0 _).drew
  change Exit.then _ _ Exit.normal _ (W.setCells w.heap.size 0 (ptrs B).toList).drew
  generalize (W.setCells w.heap.size 0 (ptrs B).toList).drew = W2 at *
  clear hc hf hk
  go_wp2
  refine bodyPost_ret (results_cell_row rfl _ _ w.heap.size 203 (ptrs B) (0, 0) _ rfl hS Tryz.underlying203 rfl (by kernel_rfl)) rfl ?_
  exact ⟨rfl, hE⟩

end Go.Proofs.YtemkpimngbbpkaaGreat
