/- Words for memory and small lemmas, of no program in particular. · Lists in memory: a slice that reads as a list, a slice of the call's own, append, stores, clear, lists of numbers. · Layer 21 (contact): what the program's functions and the reference's compute, as plain functions of seven integers, and their bounds. · Security: plain functions on bytes. -/
import Derived.WalkKit
import Derived.WalkSpells
import Derived.WalkLawsBesides
import Derived.BigQuiet
import Derived.Deep.QuietTactic
import Derived.Lib.Hide
import Derived.Deep.RegionHeld3
import Derived.Deep.DeepCutAuto
import Derived.RangeFuncOwn
import Derived.IntWalk
import Derived.Handy
import Derived.Lib.QuietBelow
import Derived.Below
import Derived.Laws.OwnMore
import Derived.Deep.AppendLies
import Derived.Deep.Draws
import Derived.Maps.AppendAt
import Derived.RegionTactic
import Derived.OwnWalk
import Derived.ChangeKeysEq
import Derived.Laws.IdiomCopy
import Derived.Laws.MakeOwn
namespace Go.Proofs.YtemkpimngbbpkaaGreat
set_option linter.unusedVariables false
set_option linter.unusedSimpArgs false
open Go.RowKit
def Ext (w w' : World) : Prop := Below w.heap.size w w'
theorem Ext.refl (w : World) : Ext w w := Below.refl _ _
theorem Ext.size {a b : World} (h : Ext a b) : a.heap.size <= b.heap.size := Below.size h
theorem Ext.trans {a b c : World} (h : Ext a b) (k : Ext b c) : Ext a c := Below.trans h (Below.mono k (Below.size h))
theorem Ext.drew {a b : World} (h : Ext a b) : Ext a b.drew := Below.drew h
theorem Ext.drewN {a b : World} (h : Ext a b) (n : Nat) : Ext a (b.drewN n) := ⟨h.os, h.tape, h.output, h.size, h.block⟩
theorem Ext.alloc {a b : World} (h : Ext a b) (o : Obj) : Ext a (b.alloc o) := Below.alloc h h.size o
theorem Ext.setCell {a b : World} (h : Ext a b) {p : Addr} (hp : a.heap.size <= p.block) (v : Value) : Ext a (b.setCell p v) := Below.setCell h hp v
theorem Ext.cell {a b : World} (h : Ext a b) {p : Addr} (hp : p.block < a.heap.size) : b.cell? p = a.cell? p := Below.cell h hp
theorem Ext.keeps {a b : World} (h : Ext a b) : KeepsOthers a b :=
 ⟨h.size, fun k _ hk _ => (Below.block h k (Array.getElem?_eq_some_iff.1 hk).1).trans hk⟩
theorem Ext.below {a b : World} (h : Ext a b) {B : Nat} (hB : B <= a.heap.size) : Below B a b := Below.mono h hB
theorem cell_lt {w : World} {p : Addr} {v : Value} (h : w.cell? p = some v) : p.block < w.heap.size := block_lt_of_cell h
theorem Ext.cell_some {a b : World} (h : Ext a b) {p : Addr} {v : Value} (hp : a.cell? p = some v) : b.cell? p = some v := (h.cell (cell_lt hp)).trans hp
def Near (W w' : World) : Prop := Ext W w' /\ ∀ b o, b < W.heap.size -> w'.cell? ⟨b, o, none⟩ = W.cell? ⟨b, o, none⟩
theorem Near.of {W w' : World} (h : Ext W w') : Near W w' := ⟨h, fun b o hb => h.cell (p := ⟨b, o, none⟩) hb⟩
theorem Near.refl (W : World) : Near W W := .of (Ext.refl _)
theorem Near.drew {W w1 : World} (h : Near W w1) : Near W w1.drew := .of h.1.drew
theorem Near.step {W w1 w2 : World} (h : Near W w1) (hb : Ext w1 w2) : Near W w2 := .of (h.1.trans hb)
theorem quiet_cell (W : World) : ∀ d os b o, b < W.heap.size -> (Sort.grow (redrawn W d) os).cell? ⟨b, o, none⟩ = W.cell? ⟨b, o, none⟩ :=
 fun d os b o hb => (below_regrown W d os).cell (p := ⟨b, o, none⟩) hb
theorem quiet_near {W w1 : World} (h : Near W w1) : ∀ d os b o, b < W.heap.size -> (Sort.grow (redrawn w1 d) os).cell? ⟨b, o, none⟩ = W.cell? ⟨b, o, none⟩ :=
 fun d os b o hb => (quiet_cell w1 d os b o (Nat.lt_of_lt_of_le hb h.1.size)).trans (h.2 b o hb)
theorem quiet_ext {W w1 : World} (h : ∃ p : Regrown, w1 = Sort.grow (redrawn W p.d) p.os) : Ext W w1 := by
 obtain ⟨p, rfl⟩ := h
 exact below_regrown W p.d p.os
def Blk (w : World) (g : Nat) (t : TypeId) (cs : Array Value) : Prop := w.heap[g]? = some (.cells cs t (0, 0))
theorem Blk.lt {w : World} {g : Nat} {t : TypeId} {cs : Array Value} (h : Blk w g t cs) : g < w.heap.size := (Array.getElem?_eq_some_iff.1 h).1
theorem Blk.cell {w : World} {g : Nat} {t : TypeId} {cs : Array Value} (h : Blk w g t cs) (i : Nat) : w.cell? ⟨g, i, none⟩ = cs[i]? := cell_of_row w g i cs t (0, 0) h
theorem Blk.frozen {w : World} {g : Nat} {t : TypeId} {cs : Array Value} (h : Blk w g t cs) (i : Nat) : w.frozen? ⟨g, i, none⟩ = false := by
 unfold Blk at h; simp [World.frozen?, h]
theorem Blk.new (w : World) (t : TypeId) (cs : Array Value) : Blk (w.alloc (.cells cs t)) w.heap.size t cs := heap_alloc_new w _
theorem Blk.ext {w w' : World} {g : Nat} {t : TypeId} {cs : Array Value} (h : Blk w g t cs) (hb : Ext w w') : Blk w' g t cs := (Below.block hb g h.lt).trans h
theorem Blk.set0 {w : World} {g : Nat} {t : TypeId} {v : Value} (h : Blk w g t #[v]) (u : Value) : Blk (w.setCell ⟨g, 0, none⟩ u) g t #[u] := by
 unfold Blk at h ⊢
 simp [World.setCell, Array.getElem?_modify, h]
theorem Blk.far {w : World} {g : Nat} {t : TypeId} {cs : Array Value} (h : Blk w g t cs) {p : Addr} (hp : g ≠ p.block) (u : Value) : Blk (w.setCell p u) g t cs := (Below.heap_setCell w p u g hp).trans h
theorem Blk.set_ {w : World} {g : Nat} {t : TypeId} {cs : Array Value} (h : Blk w g t cs) (i : Nat) (u : Value) : Blk (w.setCell ⟨g, i, none⟩ u) g t (cs.setIfInBounds i u) := by
 unfold Blk at h ⊢
 simp [World.setCell, Array.getElem?_modify, h]
theorem Blk.kept {w w' : World} {g : Nat} {t : TypeId} {cs : Array Value} (h : Blk w g t cs) {row : Option Nat} (hg : w.grownBy w' row) (hr : some g ≠ row) : Blk w' g t cs := (hg.block g h.lt hr).trans h
theorem blk_own {β : Type} (B : Nat) (t : TypeId) (f : β -> Array Value) : Own (fun s W => Blk W B t (f s)) := fun s X Y row hs hg hrow =>
 Blk.kept (h := hs) hg (fun e' => by
  obtain ⟨o, ho, hc⟩ := hrow B e'.symm
  have h2 : X.heap[B]? = some (.cells (f s) t (0, 0)) := hs
  rw [h2] at ho; cases ho; cases hc)
theorem box1 (w : World) (cs : Array Value) (t : TypeId) : ∃ W, w.alloc (.cells cs t) = W /\ Ext w W /\ Blk W w.heap.size t cs /\ w.heap.size < W.heap.size :=
 ⟨_, rfl, (Ext.refl w).alloc _, Blk.new w t cs, by simp⟩
theorem box2 (w : World) (cs ds : Array Value) (t u : TypeId) : ∃ W, (w.alloc (.cells cs t)).alloc (.cells ds u) = W /\ Ext w W /\ Blk W w.heap.size t cs /\ Blk W (w.heap.size + 1) u ds /\ w.heap.size < W.heap.size /\ w.heap.size + 1 < W.heap.size := by
 refine ⟨_, rfl, ((Ext.refl w).alloc _).alloc _, (Blk.new w t cs).ext ((Ext.refl _).alloc _), ?_, by simp; omega, by simp⟩
 have := Blk.new (w.alloc (.cells cs t)) u ds
 simpa using this
theorem ret_i64 {a b : Int} (h : a = b) : Ending.returned (.int .i64 a) = .returned (.int .i64 b) := by rw [h]
theorem ret_bool {a b : Bool} (h : a = b) : Ending.returned (.bool a) = .returned (.bool b) := by rw [h]
theorem mul_le_of {a b A B : Int} (ha : 0 <= a) (hA : a <= A) (hb : 0 <= b) (hB : b <= B) : 0 <= a * b /\ a * b <= A * B :=
 ⟨Int.mul_nonneg ha hb, Int.mul_le_mul hA hB hb (Int.le_trans ha hA)⟩
end Go.Proofs.YtemkpimngbbpkaaGreat
namespace Go.Proofs.YtemkpimngbbpkaaGreat
set_option linter.unusedVariables false
set_option linter.unusedSimpArgs false
open Go.RowKit
theorem block_of_add (a : Addr) (n : Nat) : (a.add n).block = a.block := by unfold Addr.add; split <;> rfl
theorem add_of_add (a : Addr) (i j : Nat) : (a.add i).add j = a.add (i + j) := by
 unfold Addr.add
 by_cases hi : i = 0 <;> by_cases hj : j = 0 <;> simp [hi, hj, Nat.add_assoc]
def Reads (w : World) (B size : Nat) (A : Option Addr) (n : Nat) (xs : List Value) : Prop :=
 xs.length = n * size /\ (0 < n -> ∃ ad, A = some ad /\ ad.block < B /\ ∀ j u, xs[j]? = some u -> w.cell? (ad.add j) = some u)
section
variable {w w' : World} {B B' size n : Nat} {A : Option Addr} {xs : List Value}
theorem Reads.keep (h : Reads w B size A n xs) (hk : ∀ p : Addr, p.block < B -> w'.cell? p = w.cell? p) : Reads w' B size A n xs :=
 ⟨h.1, fun hn => by
  obtain ⟨ad, e, hb, hc⟩ := h.2 hn
  exact ⟨ad, e, hb, fun j u hu => (hk _ (by rw [block_of_add]; exact hb)).trans (hc j u hu)⟩⟩
theorem Reads.more (h : Reads w B size A n xs) (hB : B <= B') : Reads w B' size A n xs :=
 ⟨h.1, fun hn => by
  obtain ⟨ad, e, hb, hc⟩ := h.2 hn
  exact ⟨ad, e, by omega, hc⟩⟩
theorem Reads.below (h : Reads w B size A n xs) (hb : Below B w w') : Reads w' B size A n xs := h.keep fun _ hp => hb.cell hp
theorem Reads.cut (h : Reads w B size A n xs) {k cap : Nat} (hk : k <= n) (hc : n <= cap) :
 Reads w B size (if cap = k then A else A.map (·.add (k * size))) (n - k) (xs.drop (k * size)) := by
 refine ⟨by rw [List.length_drop, h.1, Nat.sub_mul], fun hn => ?_⟩
 obtain ⟨ad, rfl, hb, hcell⟩ := h.2 (by omega)
 rw [if_neg (by omega)]
 refine ⟨ad.add (k * size), rfl, by rw [block_of_add]; exact hb, fun j u hu => ?_⟩
 rw [add_of_add]
 exact hcell _ u (by rw [<- hu, List.getElem?_drop])
theorem Reads.of_own {base : Nat} {e : TypeId} {c : Nat} (h : w.ownsRow base e size (.slice A n c) n xs) : Reads w w.heap.size size A n xs := by
 refine ⟨h.1, fun hn => ?_⟩
 obtain ⟨g, cap, hv, _, hlt⟩ := h.form hn
 have hA : A = some ⟨g, 0, none⟩ := by injection hv
 subst hA
 exact ⟨_, rfl, hlt, h.cells (g := g) rfl⟩
end
section
variable {P : Program} (w : World)
theorem run_append_of_nil (base : Nat) (t ty e : TypeId) (i : TypeInfo) (size : Nat) (ht : P.underlying t = some (.slice e)) (hi : P.info? e = some i)
 (v : Value) (n : Nat) (xs : List Value) (hown : w.ownsRow base e size v n xs) (c : Nat) : (Builtin.append_ #[t, t] ty #[v, .slice none 0 c]).run P w = .ok v w := by
 rcases hown.2 with ⟨rfl, rfl⟩ | ⟨g, cap, cur, rfl, _, _, hnc, _⟩
 ·simp [Builtin.append_, run_underlying ht, sizeOf, typeInfo, hi, Builtin.lenOf, Builtin.firstCells]
 ·simp [Builtin.append_, run_underlying ht, sizeOf, typeInfo, hi, Builtin.lenOf, Builtin.firstCells, hnc, storeCells]
theorem run_append_any (base : Nat) (t ty e : TypeId) (i : TypeInfo) (z : Value) (size bytes : Nat) (ht : P.underlying t = some (.slice e)) (hi : P.info? e = some i) (hz : i.zero = some z)
 (hsize : i.size = size) (hby : i.bytes = bytes) (hzs : z.cells.size = size) (hsz : 0 < size)
 (v : Value) (n : Nat) (xs : List Value) (hown : w.ownsRow base e size v n xs)
 (B : Nat) (A : Option Addr) (m c : Nat) (news : List Value) (hr : Reads w B size A m news) (h1 : ∀ u ∈ news, u.oneCell' = true)
 (h63 : n + m <= maxLen) (hbytes : (n + m) * bytes <= 140737488355328) (hbase : base <= w.heap.size) :
 ∃ v' w', (Builtin.append_ #[t, t] ty #[v, .slice A m c]).run P w = .ok v' w' /\ w'.ownsRow base e size v' (n + m) (xs ++ news) /\ w.grownBy w' v.ownBlock /\
   (v'.ownBlock = v.ownBlock ∨ v'.ownBlock = some w.heap.size) := by
 rcases A with _ | ad
 ·have hm : m = 0 := by
   rcases Nat.eq_zero_or_pos m with h0 | h0
   ·exact h0
   ·obtain ⟨ad, h, _⟩ := hr.2 h0
    cases h
  subst hm
  have hn : news = [] := List.eq_nil_of_length_eq_zero (by simpa using hr.1)
  subst hn
  exact ⟨v, w, run_append_of_nil w base t ty e i size ht hi v n xs hown c, by simpa using hown, World.grownBy.refl w _, .inl rfl⟩
 ·have hcells : ∀ j u, news[j]? = some u -> w.cell? (ad.add j) = some u := by
   intro j u hu
   rcases Nat.eq_zero_or_pos m with h0 | h0
   ·subst h0
    have hn : news = [] := List.eq_nil_of_length_eq_zero (by simpa using hr.1)
    subst hn
    simp at hu
   ·obtain ⟨ad', h, _, hc⟩ := hr.2 h0
    injection h with h
    subst h
    exact hc j u hu
  obtain ⟨v', w', hrun, h2, h3, _, h5⟩ := run_append_own_at (P := P) w base t ty e i z size bytes ht hi hz hsize hby hzs hsz v n xs hown ad m c news hr.1 hcells h1 h63 hbytes hbase
  exact ⟨v', w', hrun, h2, h3, h5⟩
theorem wp_append_any {o : Oper} {a : Act} {K : Act -> World -> Prop} {Q : Exit -> Act -> World -> Prop} (s x : Operand) (t : TypeId)
 (ho : o.op = .call { callee := .builtin .append, args := #[s, x], argTypes := #[t, t] })
 (base : Nat) (e : TypeId) (i : TypeInfo) (z : Value) (size bytes : Nat) (ht : P.underlying t = some (.slice e)) (hi : P.info? e = some i) (hz : i.zero = some z)
 (hsize : i.size = size) (hby : i.bytes = bytes) (hzs : z.cells.size = size) (hsz : 0 < size)
 (v : Value) (n : Nat) (xs : List Value) (hs : a.eval s = v) (hown : w.ownsRow base e size v n xs)
 (B : Nat) (A : Option Addr) (m c : Nat) (news : List Value) (hx : a.eval x = .slice A m c) (hr : Reads w B size A m news) (h1 : ∀ u ∈ news, u.oneCell' = true)
 (h63 : n + m <= maxLen) (hbytes : (n + m) * bytes <= 140737488355328) (hbase : base <= w.heap.size)
 (h : ∀ v' w', w'.ownsRow base e size v' (n + m) (xs ++ news) -> w.grownBy w' v.ownBlock -> (v'.ownBlock = v.ownBlock ∨ v'.ownBlock = some w.heap.size) -> K (a.put o.dst v') w') : o.wp P a w K Q := by
 obtain ⟨v', w', hrun, h2, h3, h4⟩ := run_append_any (P := P) w base t o.type e i z size bytes ht hi hz hsize hby hzs hsz v n xs hown B A m c news hr h1 h63 hbytes hbase
 unfold Oper.wp execOp
 simp only [ho, resolve, invoke, builtin, Sem.run_bind, Sem.run_pure, Result.andThen_ok, List.map_toArray, List.map_cons, List.map_nil, hs, hx, hrun]
 exact h v' w' h2 h3 h4
theorem wpList_append_any {ops : Array Oper} {rest : List Oper} {o : Oper} {a : Act} {Q : Exit -> Act -> World -> Prop} (hgd : o.guard = none) (s x : Operand) (t : TypeId)
 (ho : o.op = .call { callee := .builtin .append, args := #[s, x], argTypes := #[t, t] })
 (base : Nat) (e : TypeId) (i : TypeInfo) (z : Value) (size bytes : Nat) (ht : P.underlying t = some (.slice e)) (hi : P.info? e = some i) (hz : i.zero = some z)
 (hsize : i.size = size) (hby : i.bytes = bytes) (hzs : z.cells.size = size) (hsz : 0 < size)
 (v : Value) (n : Nat) (xs : List Value) (hs : a.eval s = v) (hown : w.ownsRow base e size v n xs)
 (B : Nat) (A : Option Addr) (m c : Nat) (news : List Value) (hx : a.eval x = .slice A m c) (hr : Reads w B size A m news) (h1 : ∀ u ∈ news, u.oneCell' = true)
 (h63 : n + m <= maxLen) (hbytes : (n + m) * bytes <= 140737488355328) (hbase : base <= w.heap.size)
 (h : ∀ v' w', w'.ownsRow base e size v' (n + m) (xs ++ news) -> w.grownBy w' v.ownBlock -> (v'.ownBlock = v.ownBlock ∨ v'.ownBlock = some w.heap.size) -> wpList P ops Q rest (a.put o.dst v') w') : wpList P ops Q (o :: rest) a w :=
 wpList_plain hgd fun _ hK => wp_append_any w s x t ho base e i z size bytes ht hi hz hsize hby hzs hsz v n xs hs hown B A m c news hx hr h1 h63 hbytes hbase fun v' w' h2 h3 h4 => hK _ _ (h v' w' h2 h3 h4)
theorem step_append_any {ops : Array Oper} {o : Oper} {a : Act} {K : Act -> World -> Prop} {Q : Exit -> Act -> World -> Prop} {E : Prop} (hgd : o.guard = none) (s x : Operand) (t : TypeId)
 (ho : o.op = .call { callee := .builtin .append, args := #[s, x], argTypes := #[t, t] })
 (base : Nat) (e : TypeId) (i : TypeInfo) (z : Value) (size bytes : Nat) (ht : P.underlying t = some (.slice e)) (hi : P.info? e = some i) (hz : i.zero = some z)
 (hsize : i.size = size) (hby : i.bytes = bytes) (hzs : z.cells.size = size) (hsz : 0 < size)
 (v : Value) (n : Nat) (xs : List Value) (hs : a.eval s = v) (hown : w.ownsRow base e size v n xs)
 (B : Nat) (A : Option Addr) (m c : Nat) (news : List Value) (hx : a.eval x = .slice A m c) (hr : Reads w B size A m news) (h1 : ∀ u ∈ news, u.oneCell' = true)
 (h63 : n + m <= maxLen) (hbytes : (n + m) * bytes <= 140737488355328) (hbase : base <= w.heap.size)
 (h : ∀ v' w', w'.ownsRow base e size v' (n + m) (xs ++ news) -> w.grownBy w' v.ownBlock -> (v'.ownBlock = v.ownBlock ∨ v'.ownBlock = some w.heap.size) -> K (a.put o.dst v') w') :
 if Region.wanted o (yielded ops a.tmps) = true then Oper.wp P o a w K Q else E := by
 have hw : Region.wanted o (yielded ops a.tmps) = true := by simp [Region.wanted, hgd]
 rw [if_pos hw]
 exact wp_append_any w s x t ho base e i z size bytes ht hi hz hsize hby hzs hsz v n xs hs hown B A m c news hx hr h1 h63 hbytes hbase h
end
structure Elt (α : Type) where
 cells : α -> List Value
 size : Nat
 len : ∀ x, (cells x).length = size
 pos : 0 < size
 one : ∀ x, ∀ u ∈ cells x, u.oneCell' = true
section
variable {α : Type} (E : Elt α)
def Elt.all (l : List α) : List Value := l.flatMap E.cells
theorem Elt.all_len : ∀ l : List α, (E.all l).length = l.length * E.size
 | [] => by simp [Elt.all]
 | x :: l => by
   have h := Elt.all_len l
   simp only [Elt.all, List.flatMap_cons, List.length_append, List.length_cons] at *
   rw [E.len, h, Nat.add_mul]; omega
theorem Elt.all_append (l m : List α) : E.all (l ++ m) = E.all l ++ E.all m := by simp [Elt.all]
theorem Elt.all_one (l : List α) : ∀ u ∈ E.all l, u.oneCell' = true := by
 intro u hu
 simp only [Elt.all, List.mem_flatMap] at hu
 obtain ⟨x, _, h⟩ := hu
 exact E.one x u h
theorem Elt.all_at : ∀ (l : List α) (k : Nat) (hk : k < l.length) (j : Nat), j < E.size -> (E.all l)[k * E.size + j]? = (E.cells l[k])[j]?
 | [], k, hk, _, _ => by simp at hk
 | x :: l, 0, _, j, hj => by
   simp only [Elt.all, List.flatMap_cons, Nat.zero_mul, Nat.zero_add, List.getElem_cons_zero]
   rw [List.getElem?_append_left (by rw [E.len]; exact hj)]
 | x :: l, k + 1, hk, j, hj => by
   have h := Elt.all_at l k (by simpa using hk) j hj
   simp only [Elt.all, List.flatMap_cons, List.getElem_cons_succ] at *
   rw [List.getElem?_append_right (by rw [E.len, Nat.add_mul]; omega), E.len, <- h]
   congr 1
   rw [Nat.add_mul]; omega
def Rd (w : World) (A : Option Addr) (l : List α) : Prop := Reads w w.heap.size E.size A l.length (E.all l)
variable {E} {w w' : World} {A : Option Addr} {l : List α}
theorem Rd.nil : Rd E w A [] := ⟨by simp [Elt.all], fun h => absurd h (by simp)⟩
theorem Rd.ext (h : Rd E w A l) (hb : Ext w w') : Rd E w' A l := (Reads.below h hb).more hb.size
theorem Rd.at (h : Rd E w A l) {k : Nat} (hk : k < l.length) :
 ∃ b o, A = some ⟨b, o, none⟩ /\ b < w.heap.size /\ ∀ j u, (E.cells l[k])[j]? = some u -> w.cell? ⟨b, o + k * E.size + j, none⟩ = some u := by
 obtain ⟨ad, e, hb, hc⟩ := h.2 (by omega)
 have h0 : ∃ u, (E.all l)[0]? = some u := by
  have : 0 < (E.all l).length := by rw [E.all_len]; exact Nat.mul_pos (by omega) E.pos
  exact ⟨_, List.getElem?_eq_getElem this⟩
 obtain ⟨u0, hu0⟩ := h0
 have hsp := World.cell?_spot (hc 0 u0 hu0)
 have hsp' : ad.spot = none := by simpa [Addr.add] using hsp
 obtain ⟨b, o, sp⟩ := ad
 simp only at hsp'
 subst hsp'
 refine ⟨b, o, e, hb, fun j u hu => ?_⟩
 have hj : j < E.size := by
  have := (List.getElem?_eq_some_iff.1 hu).1
  rw [E.len] at this; exact this
 have h2 := hc (k * E.size + j) u (by rw [E.all_at l k hk j hj]; exact hu)
 rw [Addr.add_lit] at h2
 rw [Nat.add_assoc]; exact h2
def Owns (E : Elt α) (w : World) (base : Nat) (e : TypeId) (v : Value) (l : List α) : Prop := w.ownsRow base e E.size v l.length (E.all l)
theorem Owns.none_ (base : Nat) (e : TypeId) : Owns E w base e (.slice none 0 0) [] := ⟨by simp [Elt.all], .inl ⟨rfl, rfl⟩⟩
theorem Owns.form {base : Nat} {e : TypeId} {v : Value} (h : Owns E w base e v l) : ∃ A cap, v = .slice A l.length cap /\ Rd E w A l := by
 have h2 := h
 rcases h.2 with ⟨rfl, h0⟩ | ⟨g, cap, cur, rfl, _, hh, _⟩
 ·have : l = [] := List.eq_nil_of_length_eq_zero h0
  subst this
  exact ⟨none, 0, rfl, Rd.nil⟩
 ·exact ⟨_, cap, rfl, Reads.of_own h2⟩
theorem Owns.ext {base : Nat} {e : TypeId} {v : Value} (h : Owns E w base e v l) (hb : Ext w w') : Owns E w' base e v l :=
 ⟨h.1, h.2.imp id fun ⟨g, cap, cur, hv, hg, hh, r⟩ => ⟨g, cap, cur, hv, hg, (Below.block hb g (Array.getElem?_eq_some_iff.1 hh).1).trans hh, r⟩⟩
theorem Owns.kept {base : Nat} {e : TypeId} {v : Value} (h : Owns E w base e v l) {row : Option Nat} (hg : w.grownBy w' row) (hr : ∀ g, v.ownBlock = some g -> some g ≠ row) : Owns E w' base e v l :=
 ⟨h.1, h.2.imp id fun ⟨g, cap, cur, hv, hgb, hh, r⟩ => ⟨g, cap, cur, hv, hgb, (hg.block g (Array.getElem?_eq_some_iff.1 hh).1 (hr g (by rw [hv]; rfl))).trans hh, r⟩⟩
theorem Owns.mono {base base' : Nat} {e : TypeId} {v : Value} (h : Owns E w base e v l) (hb : base' <= base) : Owns E w base' e v l :=
 ⟨h.1, h.2.imp id fun ⟨g, cap, cur, hv, hg, r⟩ => ⟨g, cap, cur, hv, Nat.le_trans hb hg, r⟩⟩
theorem Owns.block {base : Nat} {e : TypeId} {v : Value} (h : Owns E w base e v l) {g : Nat} (hv : v.ownBlock = some g) : base <= g /\ g < w.heap.size := by
 rcases h.2 with ⟨rfl, _⟩ | ⟨g', cap, cur, rfl, hb, hh, _⟩
 ·cases hv
 ·cases hv
  exact ⟨hb, (Array.getElem?_eq_some_iff.1 hh).1⟩
end
end Go.Proofs.YtemkpimngbbpkaaGreat
/- Lists in memory: append of one element to a list of the call's own. -/
namespace Go.Proofs.YtemkpimngbbpkaaGreat
set_option linter.unusedVariables false
set_option linter.unusedSimpArgs false
open Go.RowKit
section
variable {α : Type} {E : Elt α} {w w' : World} {A : Option Addr} {l : List α} {P : Program}
theorem reads_one {g : Nat} {e : TypeId} {y : α} (h : Blk w g e (E.cells y).toArray) : Reads w w.heap.size E.size (some ⟨g, 0, none⟩) 1 (E.cells y) :=
 ⟨by rw [E.len, Nat.one_mul], fun _ => ⟨_, rfl, h.lt, fun j u hu => by
  rw [Addr.add_lit, Nat.zero_add, h.cell]
  simpa using hu⟩⟩
theorem wpList_push {ops : Array Oper} {rest : List Oper} {o : Oper} {a : Act} {Q : Exit -> Act -> World -> Prop} (hgd : o.guard = none) (s x : Operand) (t : TypeId)
 (ho : o.op = .call { callee := .builtin .append, args := #[s, x], argTypes := #[t, t] })
 (base : Nat) (e : TypeId) (i : TypeInfo) (z : Value) (bytes : Nat) (ht : P.underlying t = some (.slice e)) (hi : P.info? e = some i) (hz : i.zero = some z)
 (hsize : i.size = E.size) (hby : i.bytes = bytes) (hzs : z.cells.size = E.size)
 (v : Value) (hs : a.eval s = v) (hown : Owns E w base e v l)
 (g : Nat) (y : α) (hx : a.eval x = .slice (some ⟨g, 0, none⟩) 1 1) (hy : Blk w g e (E.cells y).toArray)
 (h63 : l.length + 1 <= maxLen) (hbytes : (l.length + 1) * bytes <= 140737488355328) (hbase : base <= w.heap.size)
 (h : ∀ v' w', Owns E w' base e v' (l ++ [y]) -> w.grownBy w' v.ownBlock -> (v'.ownBlock = v.ownBlock ∨ v'.ownBlock = some w.heap.size) -> wpList P ops Q rest (a.put o.dst v') w') : wpList P ops Q (o :: rest) a w :=
 wpList_append_any w hgd s x t ho base e i z E.size bytes ht hi hz hsize hby hzs E.pos v l.length (E.all l) hs hown w.heap.size _ 1 1 (E.cells y) hx (reads_one hy) (E.one y) h63 hbytes hbase
  fun v' w' h1 h2 h3 => h v' w' (by
   unfold Owns
   rw [E.all_append, List.length_append]
   simpa [Elt.all] using h1) h2 h3
theorem ext_grown {w0 : World} {base : Nat} {e : TypeId} {v : Value} (h0 : Ext w0 w) (hown : Owns E w base e v l) (hb : w0.heap.size <= base) (hg : w.grownBy w' v.ownBlock) : Ext w0 w' :=
 Below.grown h0 hg h0.size (fun k hk => Nat.le_trans hb (hown.block hk).1)
end
end Go.Proofs.YtemkpimngbbpkaaGreat
/- Lists in memory: append of a whole list to a list of the call's own. -/
namespace Go.Proofs.YtemkpimngbbpkaaGreat
set_option linter.unusedVariables false
set_option linter.unusedSimpArgs false
open Go.RowKit
section
variable {α : Type} {E : Elt α} {w w' : World} {A : Option Addr} {l m : List α} {P : Program}
theorem Owns.rd {base : Nat} {e : TypeId} {n c : Nat} (h : Owns E w base e (.slice A n c) l) : Rd E w A l := by
 obtain ⟨A2, c2, h2, hr⟩ := h.form
 injection h2 with h3 h4 h5
 rw [h3]; exact hr
theorem Owns.len {base : Nat} {e : TypeId} {n c : Nat} (h : Owns E w base e (.slice A n c) l) : n = l.length := by
 obtain ⟨A2, c2, h2, hr⟩ := h.form
 injection h2
theorem rd_blk {g : Nat} {e : TypeId} (h : Blk w g e (E.all l).toArray) : Rd E w (some ⟨g, 0, none⟩) l :=
 ⟨E.all_len l, fun _ => ⟨_, rfl, h.lt, fun j u hu => by
  rw [Addr.add_lit, Nat.zero_add, h.cell]
  simpa using hu⟩⟩
theorem Owns.made (w : World) (base : Nat) (e : TypeId) (hb : base <= w.heap.size) : Owns E (w.alloc (.cells #[] e)) base e (.slice (some ⟨w.heap.size, 0, none⟩) 0 0) [] :=
 World.ownsRow_made w #[] 0 hb (by unfold maxLen; omega) (by simp)
theorem step_push {ops : Array Oper} {o : Oper} {a : Act} {K : Act -> World -> Prop} {Q : Exit -> Act -> World -> Prop} {Z : Prop} (hgd : o.guard = none) (s x : Operand) (t : TypeId)
 (ho : o.op = .call { callee := .builtin .append, args := #[s, x], argTypes := #[t, t] })
 (base : Nat) (e : TypeId) (i : TypeInfo) (z : Value) (bytes : Nat) (ht : P.underlying t = some (.slice e)) (hi : P.info? e = some i) (hz : i.zero = some z)
 (hsize : i.size = E.size) (hby : i.bytes = bytes) (hzs : z.cells.size = E.size)
 (v : Value) (hs : a.eval s = v) (hown : Owns E w base e v l)
 (g : Nat) (y : α) (hx : a.eval x = .slice (some ⟨g, 0, none⟩) 1 1) (hy : Blk w g e (E.cells y).toArray)
 (h63 : l.length + 1 <= maxLen) (hbytes : (l.length + 1) * bytes <= 140737488355328) (hbase : base <= w.heap.size)
 (h : ∀ v' w', Owns E w' base e v' (l ++ [y]) -> w.grownBy w' v.ownBlock -> (v'.ownBlock = v.ownBlock ∨ v'.ownBlock = some w.heap.size) -> K (a.put o.dst v') w') :
 if Region.wanted o (yielded ops a.tmps) = true then Oper.wp P o a w K Q else Z :=
 step_append_any w hgd s x t ho base e i z E.size bytes ht hi hz hsize hby hzs E.pos v l.length (E.all l) hs hown w.heap.size _ 1 1 (E.cells y) hx (reads_one hy) (E.one y) h63 hbytes hbase
  fun v' w' h1 h2 h3 => h v' w' (by
   unfold Owns
   rw [E.all_append, List.length_append]
   simpa [Elt.all] using h1) h2 h3
def cutA (A : Option Addr) (c k s : Nat) : Option Addr := if c = k then A else A.map (·.add (k * s))
theorem Rd.cut {c k : Nat} (h : Rd E w A l) (hk : k <= l.length) (hc : l.length <= c) : Rd E w (cutA A c k E.size) (l.drop k) := by
 have h1 := Reads.cut h hk hc
 have h2 : (E.all l).drop (k * E.size) = E.all (l.drop k) := by
  have : E.all l = E.all (l.take k) ++ E.all (l.drop k) := by rw [<- E.all_append, List.take_append_drop]
  rw [this, List.drop_append, List.drop_eq_nil_of_le (by rw [E.all_len, List.length_take]; rw [Nat.min_eq_left hk]; exact Nat.le_refl _), E.all_len, List.length_take, Nat.min_eq_left hk, Nat.sub_self, List.drop_zero, List.nil_append]
 unfold Rd
 rw [List.length_drop, <- h2]
 exact h1
theorem run_cut {t e : TypeId} {i : TypeInfo} {sz : Nat} (ht : P.underlying t = some (.slice e)) (hi : P.info? e = some i) (hsz : i.size = sz) {n c k : Nat} (hk : k <= n) (w : World) :
 (Instr.slice t (.slice A n c) (some (.int .i64 (k : Int))) none none).run P w = .ok (.slice (cutA A c k sz) (n - k) (c - k)) w := by
 have he : P.elem t = e := by simp [Program.elem, ht]
 rw [run_slice_l w t A n c (by rw [he]; exact ht) .i64 (k : Int) (by omega) (by omega), he, run_sizeOf w hi]
 simp [Result.andThen, sliced, cutA, Program.cellsOf, hi, hsz]
theorem run_cutAt {t e : TypeId} {i : TypeInfo} {sz : Nat} (ht : P.underlying t = some (.slice e)) (hi : P.info? e = some i) (hsz : i.size = sz) {n c k : Nat} (hk : k <= n) (w : World) :
 (Instr.sliceAt t (.slice A n c) (some (.int .i64 (k : Int))) none none).run P w = .ok (.slice (cutA A c k sz) (n - k) (c - k)) w := by
 have he : P.elem t = e := by simp [Program.elem, ht]
 rw [run_sliceAt_slice w t _ _ _ _ (by rw [he]; exact ht), run_cut ht hi hsz hk]
theorem wpList_cat {ops : Array Oper} {rest : List Oper} {o : Oper} {a : Act} {Q : Exit -> Act -> World -> Prop} (hgd : o.guard = none) (s x : Operand) (t : TypeId)
 (ho : o.op = .call { callee := .builtin .append, args := #[s, x], argTypes := #[t, t] })
 (base : Nat) (e : TypeId) (i : TypeInfo) (z : Value) (bytes : Nat) (ht : P.underlying t = some (.slice e)) (hi : P.info? e = some i) (hz : i.zero = some z)
 (hsize : i.size = E.size) (hby : i.bytes = bytes) (hzs : z.cells.size = E.size)
 (v : Value) (hs : a.eval s = v) (hown : Owns E w base e v l)
 (c n : Nat) (hx : a.eval x = .slice A n c) (hn : n = m.length) (hr : Rd E w A m)
 (h63 : l.length + m.length <= maxLen) (hbytes : (l.length + m.length) * bytes <= 140737488355328) (hbase : base <= w.heap.size)
 (h : ∀ v' w', Owns E w' base e v' (l ++ m) -> w.grownBy w' v.ownBlock -> (v'.ownBlock = v.ownBlock ∨ v'.ownBlock = some w.heap.size) -> wpList P ops Q rest (a.put o.dst v') w') : wpList P ops Q (o :: rest) a w := by
 subst hn
 exact wpList_append_any w hgd s x t ho base e i z E.size bytes ht hi hz hsize hby hzs E.pos v l.length (E.all l) hs hown w.heap.size A m.length c (E.all m) hx hr (E.all_one m) h63 hbytes hbase
  fun v' w' h1 h2 h3 => h v' w' (by
   unfold Owns
   rw [E.all_append, List.length_append]
   exact h1) h2 h3
end
end Go.Proofs.YtemkpimngbbpkaaGreat
/- Lists in memory: a store into a list of the call's own; clear. -/
namespace Go.Proofs.YtemkpimngbbpkaaGreat
set_option linter.unusedVariables false
set_option linter.unusedSimpArgs false
open Go.RowKit
def arrSets (cs : Array Value) : Nat -> List Value -> Array Value
 | _, [] => cs
 | o, v :: vs => arrSets (cs.setIfInBounds o v) (o + 1) vs
theorem arrSets_size : ∀ (vs : List Value) (cs : Array Value) (o : Nat), (arrSets cs o vs).size = cs.size
 | [], _, _ => rfl
 | v :: vs, cs, o => by simp [arrSets, arrSets_size vs]
theorem arrSets_get : ∀ (vs : List Value) (cs : Array Value) (o q : Nat), o + vs.length <= cs.size -> (arrSets cs o vs)[q]? = if o <= q /\ q < o + vs.length then vs[q - o]? else cs[q]?
 | [], cs, o, q, _ => by
   simp only [arrSets, List.length_nil]
   rw [if_neg (by omega)]
 | v :: vs, cs, o, q, h => by
   simp only [arrSets]
   rw [List.length_cons] at h
   rw [arrSets_get vs _ (o + 1) q (by simp; omega), Array.getElem?_setIfInBounds, List.length_cons]
   by_cases h1 : o + 1 <= q /\ q < o + 1 + vs.length
   ·rw [if_pos h1, if_pos (by omega)]
    obtain ⟨d, rfl⟩ : ∃ d, q = o + 1 + d := ⟨q - (o + 1), by omega⟩
    rw [show o + 1 + d - (o + 1) = d by omega, show o + 1 + d - o = d + 1 by omega]
    rfl
   ·rw [if_neg h1]
    by_cases h2 : o = q
    ·subst h2
     rw [if_pos rfl, if_pos (by omega), if_pos (by omega), Nat.sub_self]
     rfl
    ·rw [if_neg h2, if_neg (by omega)]
theorem Blk.setCells_ : ∀ (vs : List Value) {w : World} {g : Nat} {t : TypeId} {cs : Array Value} (_ : Blk w g t cs) (o : Nat), Blk (w.setCells g o vs) g t (arrSets cs o vs)
 | [], _, _, _, _, h, _ => h
 | v :: vs, _, _, _, _, h, o => Blk.setCells_ vs (h.set_ o v) (o + 1)
theorem grown_setCells : ∀ (vs : List Value) {a w : World} {g : Nat} (_ : a.grownBy w (some g)) (o : Nat), a.grownBy (w.setCells g o vs) (some g)
 | [], _, _, _, h, _ => h
 | v :: vs, a, w, g, h, o => grown_setCells vs (w := w.setCell ⟨g, o, none⟩ v) ⟨h.os, h.tape, h.output, by simpa [World.setCell] using h.size, fun i hi hne => (Below.heap_setCell w ⟨g, o, none⟩ v i (fun e => hne (by rw [e]))).trans (h.block i hi hne)⟩ (o + 1)
theorem ext_setCells {a w : World} {g : Nat} (h : Ext a w) (hg : a.heap.size <= g) (o : Nat) (vs : List Value) : Ext a (w.setCells g o vs) :=
 Below.grown h (grown_setCells vs (World.grownBy.refl w _) o) h.size (fun k hk => by injection hk with hk; omega)
section
variable {α : Type} {E : Elt α} {w w' : World} {A : Option Addr} {l m : List α} {P : Program}
theorem all_set (k : Nat) (y : α) : ∀ (m : List α), k < m.length -> ∀ q, (E.all (m.set k y))[q]? = if k * E.size <= q /\ q < k * E.size + E.size then (E.cells y)[q - k * E.size]? else (E.all m)[q]? := by
 intro m hk q
 have hpos := E.pos
 by_cases hq : q < m.length * E.size
 ·have hk1 : q / E.size < m.length := Nat.div_lt_of_lt_mul (by rw [Nat.mul_comm]; exact hq)
  have hr : q % E.size < E.size := Nat.mod_lt _ hpos
  have e1 : q / E.size * E.size + q % E.size = q := by rw [Nat.mul_comm]; exact Nat.div_add_mod q E.size
  have h1 := E.all_at (m.set k y) (q / E.size) (by simpa using hk1) (q % E.size) hr
  have h2 := E.all_at m (q / E.size) hk1 (q % E.size) hr
  rw [e1] at h1 h2
  rw [h1, h2]
  by_cases e : q / E.size = k
  ·subst e
   rw [if_pos (by constructor <;> omega)]
   simp only [List.getElem_set_self]
   congr 1
   omega
  ·rw [if_neg]
   ·rw [List.getElem_set_ne (by omega)]
   ·rintro ⟨a, b⟩
    apply e
    exact Nat.div_eq_of_lt_le a (by rw [Nat.add_mul, Nat.one_mul]; exact b)
 ·rw [if_neg, List.getElem?_eq_none (by rw [E.all_len]; simpa using Nat.le_of_not_lt hq), List.getElem?_eq_none (by rw [E.all_len]; exact Nat.le_of_not_lt hq)]
  rintro ⟨a, b⟩
  apply hq
  have : (k + 1) * E.size <= m.length * E.size := Nat.mul_le_mul_right _ hk
  rw [Nat.add_mul, Nat.one_mul] at this
  omega
theorem Owns.set_ {base : Nat} {e : TypeId} {g n c : Nat} (h : Owns E w base e (.slice (some ⟨g, 0, none⟩) n c) m) {k : Nat} (hk : k < m.length) (y : α) :
 Owns E (w.setCells g (k * E.size) (E.cells y)) base e (.slice (some ⟨g, 0, none⟩) n c) (m.set k y) := by
 have hn := h.len
 subst hn
 rcases h.2 with ⟨h1, _⟩ | ⟨g', cap, cur, h1, hg, hh, hnc, hcap, hsz, ht⟩
 ·cases h1
 ·injection h1 with h2 h3 h4
  injection h2 with h2
  injection h2 with h2
  subst h2 h4
  have hb := Blk.setCells_ (E.cells y) (show Blk w g e cur from hh) (k * E.size)
  refine ⟨by rw [E.all_len], .inr ⟨g, c, _, by rw [List.length_set], hg, hb, by rw [List.length_set]; exact hnc, hcap, by rw [arrSets_size]; exact hsz, ?_⟩⟩
  rw [List.length_set]
  have hle : (k + 1) * E.size <= m.length * E.size := Nat.mul_le_mul_right _ hk
  have hle2 : m.length * E.size <= c * E.size := Nat.mul_le_mul_right _ hnc
  rw [Nat.add_mul, Nat.one_mul] at hle
  apply List.ext_getElem?
  intro q
  rw [all_set k y m hk q]
  by_cases hq : q < m.length * E.size
  ·rw [List.getElem?_take_of_lt hq, Array.getElem?_toList, arrSets_get _ _ _ _ (by rw [E.len]; omega), E.len]
   split
   ·rfl
   ·rw [<- ht, List.getElem?_take_of_lt hq, Array.getElem?_toList]
  ·rw [List.getElem?_take_eq_none (by omega), if_neg (by omega), List.getElem?_eq_none (by rw [E.all_len]; omega)]
theorem Owns.there_ {base : Nat} {e : TypeId} {g n c : Nat} (h : Owns E w base e (.slice (some ⟨g, 0, none⟩) n c) m) :
 ∃ cur : Array Value, Blk w g e cur /\ cur.size = c * E.size /\ m.length <= c /\ ∀ (k : Nat) (hk : k < m.length) (j : Nat), j < E.size -> cur[k * E.size + j]? = (E.cells m[k])[j]? := by
 have hn := h.len
 subst hn
 rcases h.2 with ⟨h1, _⟩ | ⟨g', cap, cur, h1, hg, hh, hnc, hcap, hsz, ht⟩
 ·cases h1
 ·injection h1 with h2 h3 h4
  injection h2 with h2
  injection h2 with h2
  subst h2 h4
  refine ⟨cur, hh, hsz, hnc, fun k hk j hj => ?_⟩
  rw [<- E.all_at m k hk j hj, <- ht]
  have hle : (k + 1) * E.size <= m.length * E.size := Nat.mul_le_mul_right _ hk
  rw [Nat.add_mul, Nat.one_mul] at hle
  rw [List.getElem?_take_of_lt (by omega), Array.getElem?_toList]
end
end Go.Proofs.YtemkpimngbbpkaaGreat
/- Lists in memory: lists of integers; a list's beginning. -/
namespace Go.Proofs.YtemkpimngbbpkaaGreat
set_option linter.unusedVariables false
set_option linter.unusedSimpArgs false
open Go.RowKit
def EInt : Elt Int := ⟨fun x => [.int .i64 x], 1, fun _ => rfl, by omega, fun x u hu => by simp at hu; subst hu; rfl⟩
theorem Rd.int {w : World} {A : Option Addr} {l : List Int} (h : Rd EInt w A l) {k : Nat} (hk : k < l.length) : ∃ b o, A = some ⟨b, o, none⟩ /\ b < w.heap.size /\ w.cell? ⟨b, o + k, none⟩ = some (.int .i64 l[k]) := by
 obtain ⟨b, o, rfl, hb, hc⟩ := h.at hk
 refine ⟨b, o, rfl, hb, ?_⟩
 have := hc 0 (.int .i64 l[k]) rfl
 simpa [EInt] using this
section
variable {α : Type} {E : Elt α} {w w' : World} {A : Option Addr} {l m : List α} {P : Program}
theorem Rd.take (h : Rd E w A l) (k : Nat) : Rd E w A (l.take k) := by
 refine ⟨E.all_len _, fun hn => ?_⟩
 have hn' : 0 < (l.take k).length := hn
 rw [List.length_take] at hn'
 obtain ⟨ad, e, hb, hc⟩ := h.2 (by omega)
 refine ⟨ad, e, hb, fun j u hu => hc j u ?_⟩
 have : E.all l = E.all (l.take k) ++ E.all (l.drop k) := by rw [<- E.all_append, List.take_append_drop]
 rw [this, List.getElem?_append_left (List.getElem?_eq_some_iff.1 hu).1]
 exact hu
theorem addr_map0 (A : Option Addr) (s : Nat) : A.map (·.add (0 * s)) = A := by
 cases A <;> simp [Addr.add]
theorem run_take {t e : TypeId} {i : TypeInfo} (ht : P.underlying t = some (.slice e)) (hi : P.info? e = some i) {n c k : Nat} (hk : k <= c) (w : World) :
 (Instr.slice t (.slice A n c) none (some (.int .i64 (k : Int))) none).run P w = .ok (.slice A k c) w := by
 have he : P.elem t = e := by simp [Program.elem, ht]
 rw [run_slice_h w t A n c (by rw [he]; exact ht) .i64 (k : Int) (by omega) (by omega), he, run_sizeOf w hi]
 simp only [Result.andThen, sliced, addr_map0, ite_self]
 simp
theorem run_takeAt {t e : TypeId} {i : TypeInfo} (ht : P.underlying t = some (.slice e)) (hi : P.info? e = some i) {n c k : Nat} (hk : k <= c) (w : World) :
 (Instr.sliceAt t (.slice A n c) none (some (.int .i64 (k : Int))) none).run P w = .ok (.slice A k c) w := by
 have he : P.elem t = e := by simp [Program.elem, ht]
 rw [run_sliceAt_slice w t _ _ _ _ (by rw [he]; exact ht)]
 exact run_take ht hi hk w
theorem take_snoc {l : List α} {k : Nat} {x : α} (h : k < l.length) (hx : l[k] = x) : l.take (k + 1) = l.take k ++ [x] := by
 rw [List.take_succ_eq_append_getElem h, hx]
theorem any_step {p : α -> Bool} {l : List α} {k : Nat} {y : α} (h : k < l.length) (hy : l[k] = y) (h0 : (l.take k).any p = false) (h1 : p y = false) : (l.take (k + 1)).any p = false := by
 rw [take_snoc h hy, List.any_append, h0]; simp [h1]
theorem any_hit {p : α -> Bool} {l : List α} {k : Nat} {y : α} (h : k < l.length) (hy : l[k] = y) (h1 : p y = true) : l.any p = true :=
 List.any_eq_true.2 ⟨y, hy ▸ List.getElem_mem h, h1⟩
def findI (p : α -> Bool) (l : List α) : Int := if l.any p then (l.findIdx p : Nat) else -1
theorem findI_at {p : α -> Bool} {l : List α} {k : Nat} (h : k < l.length) (h1 : (l.take k).any p = false) (h2 : p l[k] = true) : findI p l = k := by
 have h3 : l.any p = true := List.any_eq_true.2 ⟨l[k], List.getElem_mem h, h2⟩
 have h4 : l.findIdx p = k := (List.findIdx_eq h).2 ⟨h2, fun j hj => by
  have h5 := List.any_eq_false.1 h1 (l[j]'(by omega)) (by
   rw [List.mem_take_iff_getElem]
   exact ⟨j, by omega, rfl⟩)
  simpa using h5⟩
 unfold findI
 rw [if_pos h3, h4]
theorem findI_nope {p : α -> Bool} {l : List α} (h : l.any p = false) : findI p l = -1 := by unfold findI; rw [h]; rfl
theorem findI_neg {p : α -> Bool} {l : List α} : decide (0 <= findI p l) = l.any p := by
 unfold findI
 split
 ·rename_i h; rw [h]; simp
 ·rename_i h; simp at h; simp; exact h
end
end Go.Proofs.YtemkpimngbbpkaaGreat
/- Lists of integers of the call's own: reading and writing one; what stays when one block is written. -/
namespace Go.Proofs.YtemkpimngbbpkaaGreat
set_option linter.unusedVariables false
set_option linter.unusedSimpArgs false
open Go.RowKit
def gi (m : List Int) (i : Int) : Int := m.getD i.toNat 0
theorem gi_get {m : List Int} {k : Nat} (h : k < m.length) : gi m (k : Int) = m[k] := by simp [gi, h]
theorem gi_of {m : List Int} {i : Int} (h0 : 0 <= i) (h : i.toNat < m.length) : gi m i = m[i.toNat] := by simp [gi, h]
theorem gi_mem {m : List Int} {i : Int} (h : i.toNat < m.length) : gi m i ∈ m := by simp [gi, h]
theorem gi_set {m : List Int} {i j v : Int} (hi : i.toNat < m.length) : gi (m.set i.toNat v) j = if j.toNat = i.toNat then v else gi m j := by
 unfold gi
 simp only [List.getD_eq_getElem?_getD]
 by_cases h : j.toNat = i.toNat
 ·rw [if_pos h, h, List.getElem?_set_self hi]; rfl
 ·rw [if_neg h, List.getElem?_set_ne (by omega)]
theorem Owns.gi {w : World} {base : Nat} {e : TypeId} {g n c : Nat} {m : List Int} (h : Owns EInt w base e (.slice (some ⟨g, 0, none⟩) n c) m) {i : Int} (hi : i.toNat < m.length) :
 w.cell? ⟨g, i.toNat, none⟩ = some (.int .i64 (gi m i)) := by
 obtain ⟨cur, hb, _, _, hc⟩ := h.there_
 have h1 := hc i.toNat hi 0 (by decide)
 have e1 : i.toNat * EInt.size + 0 = i.toNat := by show i.toNat * 1 + 0 = _; omega
 rw [e1] at h1
 rw [hb.cell, h1]
 simp [EInt, Go.Proofs.YtemkpimngbbpkaaGreat.gi, hi]
theorem Owns.free {w : World} {base : Nat} {e : TypeId} {g n c : Nat} {m : List Int} (h : Owns EInt w base e (.slice (some ⟨g, 0, none⟩) n c) m) : g < w.heap.size /\ ∀ i, w.frozen? ⟨g, i, none⟩ = false := by
 obtain ⟨cur, hb, _, _, hc⟩ := h.there_
 exact ⟨hb.lt, hb.frozen⟩
theorem Owns.seti {w : World} {base : Nat} {e : TypeId} {g n c : Nat} {m : List Int} (h : Owns EInt w base e (.slice (some ⟨g, 0, none⟩) n c) m) {k : Nat} (hk : k < m.length) (y : Int) :
 Owns EInt (w.setCell ⟨g, k, none⟩ (.int .i64 y)) base e (.slice (some ⟨g, 0, none⟩) n c) (m.set k y) := by
 have h1 := h.set_ hk y
 have e1 : k * EInt.size = k := Nat.mul_one k
 rw [e1] at h1
 exact h1
theorem grown_setCell {a w : World} {g : Nat} (h : a.grownBy w (some g)) (o : Nat) (u : Value) : a.grownBy (w.setCell ⟨g, o, none⟩ u) (some g) := grown_setCells [u] h o
theorem grown_ext {a w w' : World} {row : Option Nat} (h : a.grownBy w row) (hb : Ext w w') : a.grownBy w' row :=
 ⟨hb.os.trans h.os, hb.tape.trans h.tape, hb.output.trans h.output, Nat.le_trans h.size hb.size, fun i hi hn => (hb.block i (Nat.lt_of_lt_of_le hi h.size)).trans (h.block i hi hn)⟩
theorem ext_of_grown {w0 a w : World} {g : Nat} (h0 : Ext w0 a) (h : a.grownBy w (some g)) (hg : w0.heap.size <= g) : Ext w0 w :=
 Below.grown h0 h h0.size (fun k hk => by injection hk with hk; omega)
theorem Blk.keptg {a w : World} {g b : Nat} {t : TypeId} {cs : Array Value} (h : Blk a b t cs) (hg : a.grownBy w (some g)) (hne : b ≠ g) : Blk w b t cs :=
 Blk.kept h hg (fun e => hne (by injection e))
theorem Owns.madeInts (w : World) (base : Nat) (e : TypeId) (n : Nat) (hb : base <= w.heap.size) (hm : n <= maxLen) (cur : Array Value) (hc : cur = Array.replicate n (.int .i64 0)) :
 Owns EInt (w.alloc (.cells cur e)) base e (.slice (some ⟨w.heap.size, 0, none⟩) n n) (List.replicate n 0) := by
 subst hc
 refine ⟨by rw [EInt.all_len], .inr ⟨w.heap.size, n, _, by simp, hb, heap_alloc_new w _, by simp, hm, by simp [EInt], ?_⟩⟩
 have e1 : EInt.all (List.replicate n (0 : Int)) = List.replicate n (.int .i64 0) := by
  unfold Elt.all EInt
  induction n with
  | zero => rfl
  | succ k ih => simp [List.replicate_succ, ih (by omega)]
 rw [e1]
 simp [EInt]
theorem Rd.gi {w : World} {b o : Nat} {l : List Int} (h : Rd EInt w (some ⟨b, o, none⟩) l) {i : Int} (hi : i.toNat < l.length) : w.cell? ⟨b, o + i.toNat, none⟩ = some (.int .i64 (gi l i)) /\ b < w.heap.size := by
 obtain ⟨b', o', e', hb', hc⟩ := h.int hi
 injection e' with e'
 injection e' with e1 e2 _
 subst e1 e2
 refine ⟨?_, hb'⟩
 rw [hc]
 simp [Go.Proofs.YtemkpimngbbpkaaGreat.gi, hi]
theorem Owns.cap {α : Type} {E : Elt α} {w : World} {base : Nat} {e : TypeId} {A : Option Addr} {n c : Nat} {m : List α} (h : Owns E w base e (.slice A n c) m) : m.length <= c := by
 rcases h.2 with ⟨h1, h2⟩ | ⟨g', cap, cur, h1, hg, hh, hnc, _⟩
 ·omega
 ·injection h1 with _ _ h4
  omega
theorem madeCells_one (z : Value) (n : Nat) : madeCells #[z] n = Array.replicate n z := by
 apply Array.ext
 ·simp [madeCells]
 ·intro i h1 h2
  simp [madeCells, Nat.mod_one]
theorem run_make1 {P : Program} {t e : TypeId} {i : TypeInfo} {z : Value} (ht : P.underlying t = some (.slice e)) (hi : P.info? e = some i) (hz : i.zero = some z) (hsz : i.size = 1) (hby : i.bytes <= 64) (hzc : z.cells = #[z]) {n : Nat} (hn : n <= 1000000) (w : World) :
 (Instr.makeSlice t (.int .i64 (n : Int)) (.int .i64 (n : Int))).run P w = .ok (.slice (some ⟨w.heap.size, 0, none⟩) n n) (w.alloc (.cells (Array.replicate n z) e)) := by
 have hb : (i.bytes : Int) * (n : Int) <= 281474976710656 := by
  have h1 : i.bytes * n <= 64 * 1000000 := Nat.mul_le_mul hby hn
  have h2 : ((i.bytes * n : Nat) : Int) <= 281474976710656 := by omega
  rwa [Int.natCast_mul] at h2
 have hr := run_make (P := P) w t e i z ht hi hz .i64 .i64 n n (by omega) (by omega) hb (by omega)
 rw [hzc, hsz] at hr
 simp only [Int.toNat_natCast, Nat.mul_one, madeCells_one] at hr
 exact hr
end Go.Proofs.YtemkpimngbbpkaaGreat
namespace Go.Proofs.YtemkpimngbbpkaaGreat
set_option linter.unusedVariables false
set_option linter.unusedSimpArgs false
open Go.RowKit
def inB (n lo hi : Int) : Bool := decide (lo <= n /\ n <= hi)
structure Con where
 src : Int
 dst : Int
 st : Int
 en : Int
 rate : Int
 rng : Int
 loss : Int
def Con.cells (c : Con) : Array Value := #[.int .i64 c.src, .int .i64 c.dst, .int .i64 c.st, .int .i64 c.en, .int .i64 c.rate, .int .i64 c.rng, .int .i64 c.loss]
def Con.val (c : Con) : Value := .agg #[.int .i64 c.src, .int .i64 c.dst, .int .i64 c.st, .int .i64 c.en, .int .i64 c.rate, .int .i64 c.rng, .int .i64 c.loss]
def Con.inr (c : Con) : Bool := inB c.src 0 15 && inB c.dst 0 15 && inB c.rate 1 1000 && inB c.rng 1 1048576 && inB c.loss 0 16
def Con.tim (c : Con) : Bool := decide (0 <= c.st /\ c.st < c.en /\ c.en <= 1099511627776 - 2 * c.rng)
def Con.check (c : Con) : Int := if c.inr = false then 2 else if c.src = c.dst then 1 else if c.tim = false then 2 else 0
structure Con.Ok (c : Con) : Prop where
 src0 : 0 <= c.src
 src1 : c.src <= 15
 dst0 : 0 <= c.dst
 dst1 : c.dst <= 15
 rate0 : 1 <= c.rate
 rate1 : c.rate <= 1000
 rng0 : 1 <= c.rng
 rng1 : c.rng <= 1048576
 loss0 : 0 <= c.loss
 loss1 : c.loss <= 16
 ne : c.src ≠ c.dst
 st0 : 0 <= c.st
 st1 : c.st < c.en
 en1 : c.en <= 1099511627776 - 2 * c.rng
theorem Con.check_iff (c : Con) : c.check = 0 ↔ c.Ok := by
 unfold Con.check
 constructor
 ·intro h
  split at h
  ·omega
  ·rename_i h1
   split at h
   ·omega
   ·rename_i h2
    split at h
    ·omega
    ·rename_i h3
     simp only [Bool.not_eq_false] at h1 h3
     simp only [Con.inr, Con.tim, inB, Bool.and_eq_true, decide_eq_true_eq] at h1 h3
     exact ⟨h1.1.1.1.1.1, h1.1.1.1.1.2, h1.1.1.1.2.1, h1.1.1.1.2.2, h1.1.1.2.1, h1.1.1.2.2, h1.1.2.1, h1.1.2.2, h1.2.1, h1.2.2, h2, h3.1, h3.2.1, h3.2.2⟩
 ·rintro ⟨h1, h2, h3, h4, h5, h6, h7, h8, h9, h10, h11, h12, h13, h14⟩
  have e1 : c.inr = true := by simp only [Con.inr, inB, Bool.and_eq_true, decide_eq_true_eq]; omega
  have e2 : c.tim = true := by simp only [Con.tim, decide_eq_true_eq]; omega
  simp [e1, e2, h11]
def Con.ticks (c : Con) (n : Int) : Int := (n + 8 + c.rate - 1) / c.rate
def Con.pass (c : Con) (size : Int) : Int := size / 16 * c.ticks 16 + if size % 16 > 0 then c.ticks (size % 16) else 0
def Con.dur (c : Con) (size : Int) : Int := c.pass size + c.loss * (2 * c.rng + 1 + c.ticks 16)
theorem Con.ticks_bd {c : Con} {n : Int} (h : 1 <= c.rate) (hn : 0 <= n) : 1 <= c.ticks n /\ c.ticks n <= n + 8 := by
 unfold Con.ticks
 constructor
 ·exact (Int.le_ediv_iff_mul_le (by omega)).2 (by omega)
 ·have h1 : n + 8 + c.rate - 1 <= (n + 8) * c.rate := by
   have h2 : (n + 8 - 1) * 1 <= (n + 8 - 1) * c.rate := Int.mul_le_mul_of_nonneg_left h (by omega)
   have h3 : (n + 8 - 1) * c.rate = (n + 8) * c.rate - c.rate := by rw [Int.sub_mul, Int.one_mul]
   omega
  exact Int.le_of_lt_add_one (Int.ediv_lt_of_lt_mul (by omega) (by rw [Int.add_mul]; omega))
theorem Con.pass_bd {c : Con} {n : Int} (h : 1 <= c.rate) (hn : 1 <= n) (hn2 : n <= 65536) : 1 <= c.pass n /\ c.pass n <= 100000 := by
 unfold Con.pass
 have t := Con.ticks_bd (c := c) (n := 16) h (by omega)
 have q0 : 0 <= n / 16 := by omega
 have q1 : n / 16 <= 4096 := by omega
 have m := mul_le_of q0 q1 (by omega : 0 <= c.ticks 16) (by omega : c.ticks 16 <= 24)
 split
 ·have t2 := Con.ticks_bd (c := c) (n := n % 16) h (by omega)
  omega
 ·have q2 : 1 <= n / 16 := by omega
  have m2 : 1 * 1 <= n / 16 * c.ticks 16 := Int.mul_le_mul q2 t.1 (by omega) (by omega)
  omega
theorem Con.extra_bd {c : Con} (h1 : 1 <= c.rate) (h7 : 1 <= c.rng) (h8 : c.rng <= 1048576) (h9 : 0 <= c.loss) (h10 : c.loss <= 16) :
 0 <= c.loss * (2 * c.rng + 1 + c.ticks 16) /\ c.loss * (2 * c.rng + 1 + c.ticks 16) <= 40000000 := by
 have t := Con.ticks_bd (c := c) (n := 16) h1 (by omega)
 have m := mul_le_of h9 h10 (by omega : 0 <= 2 * c.rng + 1 + c.ticks 16) (by omega : 2 * c.rng + 1 + c.ticks 16 <= 2097200)
 omega
theorem Con.dur_bd {c : Con} {n : Int} (h : c.Ok) (hn : 1 <= n) (hn2 : n <= 65536) : 1 <= c.dur n /\ c.dur n <= 41000000 := by
 unfold Con.dur
 have p := Con.pass_bd (c := c) h.rate0 hn hn2
 have e := Con.extra_bd h.rate0 h.rng0 h.rng1 h.loss0 h.loss1
 omega
def Con.arg (c : Con) (size : Int) : Int := if c.check = 0 then (if inB size 1 65536 then 0 else 2) else 1
theorem Con.arg_ok {c : Con} {size : Int} : c.arg size = 0 ↔ c.Ok /\ 1 <= size /\ size <= 65536 := by
 unfold Con.arg
 rw [<- Con.check_iff]
 by_cases h : c.check = 0
 ·simp only [h, inB, if_true]
  by_cases h2 : 1 <= size /\ size <= 65536 <;> simp [h2]
 ·simp [h]
def Con.fitsB (c : Con) (b size : Int) : Bool := decide (c.st <= b /\ b <= c.en - c.dur size)
def Con.atE (c : Con) (b n : Int) : Int := if c.arg n = 0 then (if c.fitsB b n then 0 else 16) else c.arg n
def Con.beg (c : Con) (t : Int) : Int := if t < c.st then c.st else t
def Con.beginT (c : Con) (t n : Int) : Int := if c.atE (c.beg t) n = 0 then c.beg t else 0
def Con.beginE (c : Con) (t n : Int) : Int := c.atE (c.beg t) n
def Con.aftT (c : Con) (b n k : Int) : Int := if c.atE b n = 0 then b + c.dur n + k * c.rng else 0
def Con.arrT (c : Con) (b n : Int) : Int := c.aftT b n 1
def Con.durR (c : Con) (n : Int) : Int := if c.arg n = 0 then c.dur n else 0
def Con.fitsR (c : Con) (b n : Int) : Bool := decide (c.arg n = 0) && c.fitsB b n
def Con.overlapB (a b : Con) : Bool := decide (a.check = 0) && decide (b.check = 0) && decide (a.src = b.src) && decide (a.dst = b.dst) && decide (max a.st b.st < min a.en b.en)
theorem Con.ticks_mono {c : Con} {a b : Int} (h : 1 <= c.rate) (hab : a <= b) : c.ticks a <= c.ticks b := by
 unfold Con.ticks
 exact Int.ediv_le_ediv (by omega) (by omega)
theorem Con.pass_succ {c : Con} {n : Int} (h : 1 <= c.rate) (hn : 0 <= n) : c.pass n <= c.pass (n + 1) := by
 unfold Con.pass
 have t0 := Con.ticks_bd (c := c) (n := (n + 1) % 16) h (by omega)
 have t1 := Con.ticks_mono (c := c) (a := n % 16) (b := (n + 1) % 16) h
 have t2 := Con.ticks_mono (c := c) (a := n % 16) (b := 16) h (by omega)
 by_cases e : n % 16 = 15
 ·have e1 : (n + 1) % 16 = 0 := by omega
  have e2 : (n + 1) / 16 = n / 16 + 1 := by omega
  rw [e1, e2, if_pos (by omega), if_neg (by omega), Int.add_mul, Int.one_mul]
  omega
 ·have e2 : (n + 1) / 16 = n / 16 := by omega
  have t3 := t1 (by omega)
  rw [e2, if_pos (by omega : (n + 1) % 16 > 0)]
  split <;> omega
theorem Con.pass_mono {c : Con} {a b : Int} (h : 1 <= c.rate) (ha : 0 <= a) (hab : a <= b) : c.pass a <= c.pass b := by
 obtain ⟨k, rfl⟩ : ∃ k : Nat, b = a + k := ⟨(b - a).toNat, by omega⟩
 clear hab
 induction k with
 | zero => simp
 | succ k ih =>
   have := Con.pass_succ (c := c) (n := a + k) h (by omega)
   have e : a + ((k + 1 : Nat) : Int) = a + k + 1 := by omega
   rw [e]
   omega
theorem Con.dur_mono {c : Con} {a b : Int} (h : 1 <= c.rate) (ha : 0 <= a) (hab : a <= b) : c.dur a <= c.dur b := by
 have := Con.pass_mono (c := c) h ha hab
 unfold Con.dur
 omega
end Go.Proofs.YtemkpimngbbpkaaGreat
namespace Go.Proofs.YtemkpimngbbpkaaGreat
set_option linter.unusedVariables false
set_option linter.unusedSimpArgs false
open Go.RowKit
abbrev Bts := List UInt8
def strV (l : Bts) : Value := .string ⟨l.toArray⟩
def EB : Elt UInt8 := ⟨fun b => [.int .u8 (b.toNat : Int)], 1, fun _ => rfl, by omega, fun x u hu => by simp at hu; subst hu; rfl⟩
structure Q4 where
 a : UInt64
 b : UInt64
 c : UInt64
 d : UInt64
def rl (x k : UInt64) : UInt64 := (x <<< k) ||| (x >>> (64 - k))
def Q4.rnd (v : Q4) : Q4 :=
 let a := v.a + v.b
 let b := rl v.b 13 ^^^ a
 let a := rl a 32
 let c := v.c + v.d
 let d := rl v.d 16 ^^^ c
 let a := a + d
 let d := rl d 21 ^^^ a
 let c := c + b
 let b := rl b 17 ^^^ c
 let c := rl c 32
 ⟨a, b, c, d⟩
def wrdK (l : Bts) : Nat -> UInt64
 | 0 => 0
 | k + 1 => wrdK l k ||| ((l.getD k 0).toUInt64 <<< (UInt64.ofNat (8 * k)))
def wrd (l : Bts) : UInt64 := wrdK l 8
def wby (m : UInt64) : Bts := (List.range 8).map fun i => (m >>> (UInt64.ofNat (8 * i))).toUInt8
def lastB (s : Bts) : Bts := let r := s.drop (s.length / 8 * 8); (r ++ List.replicate (8 - r.length) 0).set 7 (UInt8.ofNat s.length)
def wordsL (s : Bts) : List UInt64 := (List.range (s.length / 8)).map (fun i => wrd (s.drop (8 * i))) ++ [wrd (lastB s)]
def Q4.word (v : Q4) (m : UInt64) : Q4 :=
 let u := (Q4.rnd (Q4.rnd { v with d := v.d ^^^ m }))
 { u with a := u.a ^^^ m }
def Q4.fin (v : Q4) : UInt64 :=
 let u := Q4.rnd (Q4.rnd (Q4.rnd (Q4.rnd { v with c := v.c ^^^ 255 })))
 u.a ^^^ u.b ^^^ u.c ^^^ u.d
def q0 (key : Bts) : Q4 := ⟨wrd key ^^^ 0x736f6d6570736575, wrd (key.drop 8) ^^^ 0x646f72616e646f6d, wrd key ^^^ 0x6c7967656e657261, wrd (key.drop 8) ^^^ 0x7465646279746573⟩
def tagB (key s : Bts) : Bts := wby ((wordsL s).foldl Q4.word (q0 key)).fin
def chainB (l : List Bts) : Bts := l.flatMap fun s => wby (UInt64.ofNat s.length) ++ s
def cst1 (r : UInt32) : UInt32 := if r % 2 = 1 then (r / 2) ^^^ 2197175160 else r / 2
def cst (r : UInt32) : UInt32 := cst1 (cst1 (cst1 (cst1 (cst1 (cst1 (cst1 (cst1 r)))))))
def crcU (r : UInt32) (s : Bts) : UInt32 := s.foldl (fun r b => (r >>> 8) ^^^ cst (r.toUInt8 ^^^ b).toUInt32) r
def crcS (s : Bts) : UInt32 := crcU 4294967295 s ^^^ 4294967295
def ctail (s : Bts) : Bts := let n := crcS s; [n.toUInt8, (n >>> 8).toUInt8, (n >>> 16).toUInt8, (n >>> 24).toUInt8]
def zig (n : Int) : Nat := if n < 0 then (-2 * n - 1).toNat else (2 * n).toNat
def ngrF (z : Nat) : Nat -> Nat -> Nat
 | 0, k => k
 | f + 1, k => if z / 128 ^ k < 128 then k else ngrF z f (k + 1)
def ngr (z : Nat) : Nat := ngrF z 9 0
def vintN (z : Nat) : Bts := (List.range (ngr z + 1)).map fun i => UInt8.ofNat (z / 128 ^ (ngr z - i) % 128 + if i = ngr z then 0 else 128)
def vint (n : Int) : Bts := vintN (zig n)
def vtext (s : Bts) : Bts := vint s.length ++ s
def sealB (s : Bts) : Bts := vtext s ++ ctail (vtext s)
structure Bl where
 kind : Int
 flags : Int
 data : Bts
def Bl.enc (b : Bl) : Bts := sealB (vint b.kind ++ vint b.flags ++ vtext b.data)
def encAll (l : List Bl) : Bts := vint l.length ++ l.flatMap Bl.enc
def EBl : Elt Bl := ⟨fun b => [.int .i64 b.kind, .int .i64 b.flags, strV b.data], 3, fun _ => rfl, by omega, fun x u hu => by simp at hu; rcases hu with h | h | h <;> subst h <;> rfl⟩
structure Bu where
 src : Int
 cr : Int
 seq : Int
 off : Int
 tot : Int
 dk : Int
 dn : Int
 life : Int
 prio : Int
 flags : Int
 blocks : List Bl
 pay : Bts
def Bu.nums (b : Bu) : List Int := [b.src, b.cr, b.seq, b.off, b.tot, b.dk, b.dn, b.life, b.prio, b.flags]
def Bu.enc (b : Bu) : Bts := sealB (vtext [77, 66, 49] ++ b.nums.flatMap vint ++ encAll b.blocks ++ vtext b.pay)
def exKey : Bts := [48, 49, 50, 51, 52, 53, 54, 55, 56, 57, 97, 98, 99, 100, 101, 102]
def exKey2 : Bts := [48, 49, 50, 51, 52, 53, 54, 55, 56, 57, 97, 98, 99, 100, 101, 103]
def exBu : Bu := ⟨1, 0, 0, 0, 0, 1, 2, 9, 0, 0, [], [104, 105]⟩
end Go.Proofs.YtemkpimngbbpkaaGreat
