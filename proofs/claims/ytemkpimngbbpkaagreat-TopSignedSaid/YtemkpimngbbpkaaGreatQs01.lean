/- Words for memory and small lemmas, of no program in particular. · Lists in memory: a slice that reads as a list, a slice of the call's own, append, stores, clear, lists of numbers. · From a walk to the given statement; what comes in, as plain data. · Layer 21 (contact): what the program's functions and the reference's compute, as plain functions of seven integers, and their bounds. · Plans, requests, earliest arrivals, latest times, profiles: plain data and their laws. · Security: plain functions on bytes. · Security: signatures, plain functions. · slices.Reverse of a list of hops of the call's own. · Update: histories of changes, plain functions and laws. · Update: one more change; the plan of a history. · Rows of bytes of the call's own, with or without the mark of a conversion. · Lists of integers and of hops compared: the walks. · Layer 24 (journey): lists of numbers compared. -/
import Derived.WalkKit
import Derived.WalkSpells
import Derived.WalkLawsBesides
import Derived.BigQuiet
import Derived.Deep.QuietTactic
import Derived.Lib.Hide
import Derived.Deep.RegionHeld3
import Derived.Deep.DeepCutAuto
import Derived.RangeFuncOwn
import Derived.IntWalk
import Derived.Handy
import Derived.Lib.QuietBelow
import Derived.Below
import Derived.Laws.OwnMore
import Derived.Deep.AppendLies
import Derived.Deep.Draws
import Derived.Maps.AppendAt
import Derived.RegionTactic
import Derived.OwnWalk
import Derived.ChangeKeysEq
import Derived.Laws.IdiomCopy
import Derived.Laws.MakeOwn
import Derived.ProofKit
import Derived.OpenShut
import Derived.Deep.Fields
import Derived.Deep.Slices
import Derived.ChangeSame
import Derived.Carry
import Derived.Test.YtemkpimngbbpkaaGreatRows
import Derived.BigRegion
import Derived.Lib.FrozenHead
import Derived.Lib.ConvBytes
import Derived.Laws.BytesString
import Derived.Laws.StructEq
import Derived.LaidEql
namespace Go.Proofs.YtemkpimngbbpkaaGreat
set_option linter.unusedVariables false
set_option linter.unusedSimpArgs false
open Go.RowKit
def Ext (w w' : World) : Prop := Below w.heap.size w w'
theorem Ext.refl (w : World) : Ext w w := Below.refl _ _
theorem Ext.size {a b : World} (h : Ext a b) : a.heap.size <= b.heap.size := Below.size h
theorem Ext.trans {a b c : World} (h : Ext a b) (k : Ext b c) : Ext a c := Below.trans h (Below.mono k (Below.size h))
theorem Ext.drew {a b : World} (h : Ext a b) : Ext a b.drew := Below.drew h
theorem Ext.drewN {a b : World} (h : Ext a b) (n : Nat) : Ext a (b.drewN n) := ⟨h.os, h.tape, h.output, h.size, h.block⟩
theorem Ext.alloc {a b : World} (h : Ext a b) (o : Obj) : Ext a (b.alloc o) := Below.alloc h h.size o
theorem Ext.setCell {a b : World} (h : Ext a b) {p : Addr} (hp : a.heap.size <= p.block) (v : Value) : Ext a (b.setCell p v) := Below.setCell h hp v
theorem Ext.cell {a b : World} (h : Ext a b) {p : Addr} (hp : p.block < a.heap.size) : b.cell? p = a.cell? p := Below.cell h hp
theorem Ext.keeps {a b : World} (h : Ext a b) : KeepsOthers a b :=
 ⟨h.size, fun k _ hk _ => (Below.block h k (Array.getElem?_eq_some_iff.1 hk).1).trans hk⟩
theorem Ext.below {a b : World} (h : Ext a b) {B : Nat} (hB : B <= a.heap.size) : Below B a b := Below.mono h hB
theorem cell_lt {w : World} {p : Addr} {v : Value} (h : w.cell? p = some v) : p.block < w.heap.size := block_lt_of_cell h
theorem Ext.cell_some {a b : World} (h : Ext a b) {p : Addr} {v : Value} (hp : a.cell? p = some v) : b.cell? p = some v := (h.cell (cell_lt hp)).trans hp
def Near (W w' : World) : Prop := Ext W w' /\ ∀ b o, b < W.heap.size -> w'.cell? ⟨b, o, none⟩ = W.cell? ⟨b, o, none⟩
theorem Near.of {W w' : World} (h : Ext W w') : Near W w' := ⟨h, fun b o hb => h.cell (p := ⟨b, o, none⟩) hb⟩
theorem Near.refl (W : World) : Near W W := .of (Ext.refl _)
theorem Near.drew {W w1 : World} (h : Near W w1) : Near W w1.drew := .of h.1.drew
theorem Near.step {W w1 w2 : World} (h : Near W w1) (hb : Ext w1 w2) : Near W w2 := .of (h.1.trans hb)
theorem quiet_cell (W : World) : ∀ d os b o, b < W.heap.size -> (Sort.grow (redrawn W d) os).cell? ⟨b, o, none⟩ = W.cell? ⟨b, o, none⟩ :=
 fun d os b o hb => (below_regrown W d os).cell (p := ⟨b, o, none⟩) hb
theorem quiet_near {W w1 : World} (h : Near W w1) : ∀ d os b o, b < W.heap.size -> (Sort.grow (redrawn w1 d) os).cell? ⟨b, o, none⟩ = W.cell? ⟨b, o, none⟩ :=
 fun d os b o hb => (quiet_cell w1 d os b o (Nat.lt_of_lt_of_le hb h.1.size)).trans (h.2 b o hb)
theorem quiet_ext {W w1 : World} (h : ∃ p : Regrown, w1 = Sort.grow (redrawn W p.d) p.os) : Ext W w1 := by
 obtain ⟨p, rfl⟩ := h
 exact below_regrown W p.d p.os
def Blk (w : World) (g : Nat) (t : TypeId) (cs : Array Value) : Prop := w.heap[g]? = some (.cells cs t (0, 0))
theorem Blk.lt {w : World} {g : Nat} {t : TypeId} {cs : Array Value} (h : Blk w g t cs) : g < w.heap.size := (Array.getElem?_eq_some_iff.1 h).1
theorem Blk.cell {w : World} {g : Nat} {t : TypeId} {cs : Array Value} (h : Blk w g t cs) (i : Nat) : w.cell? ⟨g, i, none⟩ = cs[i]? := cell_of_row w g i cs t (0, 0) h
theorem Blk.frozen {w : World} {g : Nat} {t : TypeId} {cs : Array Value} (h : Blk w g t cs) (i : Nat) : w.frozen? ⟨g, i, none⟩ = false := by
 unfold Blk at h; simp [World.frozen?, h]
theorem Blk.new (w : World) (t : TypeId) (cs : Array Value) : Blk (w.alloc (.cells cs t)) w.heap.size t cs := heap_alloc_new w _
theorem Blk.ext {w w' : World} {g : Nat} {t : TypeId} {cs : Array Value} (h : Blk w g t cs) (hb : Ext w w') : Blk w' g t cs := (Below.block hb g h.lt).trans h
theorem Blk.set0 {w : World} {g : Nat} {t : TypeId} {v : Value} (h : Blk w g t #[v]) (u : Value) : Blk (w.setCell ⟨g, 0, none⟩ u) g t #[u] := by
 unfold Blk at h ⊢
 simp [World.setCell, Array.getElem?_modify, h]
theorem Blk.far {w : World} {g : Nat} {t : TypeId} {cs : Array Value} (h : Blk w g t cs) {p : Addr} (hp : g ≠ p.block) (u : Value) : Blk (w.setCell p u) g t cs := (Below.heap_setCell w p u g hp).trans h
theorem Blk.set_ {w : World} {g : Nat} {t : TypeId} {cs : Array Value} (h : Blk w g t cs) (i : Nat) (u : Value) : Blk (w.setCell ⟨g, i, none⟩ u) g t (cs.setIfInBounds i u) := by
 unfold Blk at h ⊢
 simp [World.setCell, Array.getElem?_modify, h]
theorem Blk.kept {w w' : World} {g : Nat} {t : TypeId} {cs : Array Value} (h : Blk w g t cs) {row : Option Nat} (hg : w.grownBy w' row) (hr : some g ≠ row) : Blk w' g t cs := (hg.block g h.lt hr).trans h
theorem blk_own {β : Type} (B : Nat) (t : TypeId) (f : β -> Array Value) : Own (fun s W => Blk W B t (f s)) := fun s X Y row hs hg hrow =>
 Blk.kept (h := hs) hg (fun e' => by
  obtain ⟨o, ho, hc⟩ := hrow B e'.symm
  have h2 : X.heap[B]? = some (.cells (f s) t (0, 0)) := hs
  rw [h2] at ho; cases ho; cases hc)
theorem box1 (w : World) (cs : Array Value) (t : TypeId) : ∃ W, w.alloc (.cells cs t) = W /\ Ext w W /\ Blk W w.heap.size t cs /\ w.heap.size < W.heap.size :=
 ⟨_, rfl, (Ext.refl w).alloc _, Blk.new w t cs, by simp⟩
theorem box2 (w : World) (cs ds : Array Value) (t u : TypeId) : ∃ W, (w.alloc (.cells cs t)).alloc (.cells ds u) = W /\ Ext w W /\ Blk W w.heap.size t cs /\ Blk W (w.heap.size + 1) u ds /\ w.heap.size < W.heap.size /\ w.heap.size + 1 < W.heap.size := by
 refine ⟨_, rfl, ((Ext.refl w).alloc _).alloc _, (Blk.new w t cs).ext ((Ext.refl _).alloc _), ?_, by simp; omega, by simp⟩
 have := Blk.new (w.alloc (.cells cs t)) u ds
 simpa using this
theorem ret_i64 {a b : Int} (h : a = b) : Ending.returned (.int .i64 a) = .returned (.int .i64 b) := by rw [h]
theorem ret_bool {a b : Bool} (h : a = b) : Ending.returned (.bool a) = .returned (.bool b) := by rw [h]
theorem mul_le_of {a b A B : Int} (ha : 0 <= a) (hA : a <= A) (hb : 0 <= b) (hB : b <= B) : 0 <= a * b /\ a * b <= A * B :=
 ⟨Int.mul_nonneg ha hb, Int.mul_le_mul hA hB hb (Int.le_trans ha hA)⟩
end Go.Proofs.YtemkpimngbbpkaaGreat
namespace Go.Proofs.YtemkpimngbbpkaaGreat
set_option linter.unusedVariables false
set_option linter.unusedSimpArgs false
open Go.RowKit
theorem block_of_add (a : Addr) (n : Nat) : (a.add n).block = a.block := by unfold Addr.add; split <;> rfl
theorem add_of_add (a : Addr) (i j : Nat) : (a.add i).add j = a.add (i + j) := by
 unfold Addr.add
 by_cases hi : i = 0 <;> by_cases hj : j = 0 <;> simp [hi, hj, Nat.add_assoc]
def Reads (w : World) (B size : Nat) (A : Option Addr) (n : Nat) (xs : List Value) : Prop :=
 xs.length = n * size /\ (0 < n -> ∃ ad, A = some ad /\ ad.block < B /\ ∀ j u, xs[j]? = some u -> w.cell? (ad.add j) = some u)
section
variable {w w' : World} {B B' size n : Nat} {A : Option Addr} {xs : List Value}
theorem Reads.keep (h : Reads w B size A n xs) (hk : ∀ p : Addr, p.block < B -> w'.cell? p = w.cell? p) : Reads w' B size A n xs :=
 ⟨h.1, fun hn => by
  obtain ⟨ad, e, hb, hc⟩ := h.2 hn
  exact ⟨ad, e, hb, fun j u hu => (hk _ (by rw [block_of_add]; exact hb)).trans (hc j u hu)⟩⟩
theorem Reads.more (h : Reads w B size A n xs) (hB : B <= B') : Reads w B' size A n xs :=
 ⟨h.1, fun hn => by
  obtain ⟨ad, e, hb, hc⟩ := h.2 hn
  exact ⟨ad, e, by omega, hc⟩⟩
theorem Reads.below (h : Reads w B size A n xs) (hb : Below B w w') : Reads w' B size A n xs := h.keep fun _ hp => hb.cell hp
theorem Reads.cut (h : Reads w B size A n xs) {k cap : Nat} (hk : k <= n) (hc : n <= cap) :
 Reads w B size (if cap = k then A else A.map (·.add (k * size))) (n - k) (xs.drop (k * size)) := by
 refine ⟨by rw [List.length_drop, h.1, Nat.sub_mul], fun hn => ?_⟩
 obtain ⟨ad, rfl, hb, hcell⟩ := h.2 (by omega)
 rw [if_neg (by omega)]
 refine ⟨ad.add (k * size), rfl, by rw [block_of_add]; exact hb, fun j u hu => ?_⟩
 rw [add_of_add]
 exact hcell _ u (by rw [<- hu, List.getElem?_drop])
theorem Reads.of_own {base : Nat} {e : TypeId} {c : Nat} (h : w.ownsRow base e size (.slice A n c) n xs) : Reads w w.heap.size size A n xs := by
 refine ⟨h.1, fun hn => ?_⟩
 obtain ⟨g, cap, hv, _, hlt⟩ := h.form hn
 have hA : A = some ⟨g, 0, none⟩ := by injection hv
 subst hA
 exact ⟨_, rfl, hlt, h.cells (g := g) rfl⟩
end
section
variable {P : Program} (w : World)
theorem run_append_of_nil (base : Nat) (t ty e : TypeId) (i : TypeInfo) (size : Nat) (ht : P.underlying t = some (.slice e)) (hi : P.info? e = some i)
 (v : Value) (n : Nat) (xs : List Value) (hown : w.ownsRow base e size v n xs) (c : Nat) : (Builtin.append_ #[t, t] ty #[v, .slice none 0 c]).run P w = .ok v w := by
 rcases hown.2 with ⟨rfl, rfl⟩ | ⟨g, cap, cur, rfl, _, _, hnc, _⟩
 ·simp [Builtin.append_, run_underlying ht, sizeOf, typeInfo, hi, Builtin.lenOf, Builtin.firstCells]
 ·simp [Builtin.append_, run_underlying ht, sizeOf, typeInfo, hi, Builtin.lenOf, Builtin.firstCells, hnc, storeCells]
theorem run_append_any (base : Nat) (t ty e : TypeId) (i : TypeInfo) (z : Value) (size bytes : Nat) (ht : P.underlying t = some (.slice e)) (hi : P.info? e = some i) (hz : i.zero = some z)
 (hsize : i.size = size) (hby : i.bytes = bytes) (hzs : z.cells.size = size) (hsz : 0 < size)
 (v : Value) (n : Nat) (xs : List Value) (hown : w.ownsRow base e size v n xs)
 (B : Nat) (A : Option Addr) (m c : Nat) (news : List Value) (hr : Reads w B size A m news) (h1 : ∀ u ∈ news, u.oneCell' = true)
 (h63 : n + m <= maxLen) (hbytes : (n + m) * bytes <= 140737488355328) (hbase : base <= w.heap.size) :
 ∃ v' w', (Builtin.append_ #[t, t] ty #[v, .slice A m c]).run P w = .ok v' w' /\ w'.ownsRow base e size v' (n + m) (xs ++ news) /\ w.grownBy w' v.ownBlock /\
   (v'.ownBlock = v.ownBlock ∨ v'.ownBlock = some w.heap.size) := by
 rcases A with _ | ad
 ·have hm : m = 0 := by
   rcases Nat.eq_zero_or_pos m with h0 | h0
   ·exact h0
   ·obtain ⟨ad, h, _⟩ := hr.2 h0
    cases h
  subst hm
  have hn : news = [] := List.eq_nil_of_length_eq_zero (by simpa using hr.1)
  subst hn
  exact ⟨v, w, run_append_of_nil w base t ty e i size ht hi v n xs hown c, by simpa using hown, World.grownBy.refl w _, .inl rfl⟩
 ·have hcells : ∀ j u, news[j]? = some u -> w.cell? (ad.add j) = some u := by
   intro j u hu
   rcases Nat.eq_zero_or_pos m with h0 | h0
   ·subst h0
    have hn : news = [] := List.eq_nil_of_length_eq_zero (by simpa using hr.1)
    subst hn
    simp at hu
   ·obtain ⟨ad', h, _, hc⟩ := hr.2 h0
    injection h with h
    subst h
    exact hc j u hu
  obtain ⟨v', w', hrun, h2, h3, _, h5⟩ := run_append_own_at (P := P) w base t ty e i z size bytes ht hi hz hsize hby hzs hsz v n xs hown ad m c news hr.1 hcells h1 h63 hbytes hbase
  exact ⟨v', w', hrun, h2, h3, h5⟩
theorem wp_append_any {o : Oper} {a : Act} {K : Act -> World -> Prop} {Q : Exit -> Act -> World -> Prop} (s x : Operand) (t : TypeId)
 (ho : o.op = .call { callee := .builtin .append, args := #[s, x], argTypes := #[t, t] })
 (base : Nat) (e : TypeId) (i : TypeInfo) (z : Value) (size bytes : Nat) (ht : P.underlying t = some (.slice e)) (hi : P.info? e = some i) (hz : i.zero = some z)
 (hsize : i.size = size) (hby : i.bytes = bytes) (hzs : z.cells.size = size) (hsz : 0 < size)
 (v : Value) (n : Nat) (xs : List Value) (hs : a.eval s = v) (hown : w.ownsRow base e size v n xs)
 (B : Nat) (A : Option Addr) (m c : Nat) (news : List Value) (hx : a.eval x = .slice A m c) (hr : Reads w B size A m news) (h1 : ∀ u ∈ news, u.oneCell' = true)
 (h63 : n + m <= maxLen) (hbytes : (n + m) * bytes <= 140737488355328) (hbase : base <= w.heap.size)
 (h : ∀ v' w', w'.ownsRow base e size v' (n + m) (xs ++ news) -> w.grownBy w' v.ownBlock -> (v'.ownBlock = v.ownBlock ∨ v'.ownBlock = some w.heap.size) -> K (a.put o.dst v') w') : o.wp P a w K Q := by
 obtain ⟨v', w', hrun, h2, h3, h4⟩ := run_append_any (P := P) w base t o.type e i z size bytes ht hi hz hsize hby hzs hsz v n xs hown B A m c news hr h1 h63 hbytes hbase
 unfold Oper.wp execOp
 simp only [ho, resolve, invoke, builtin, Sem.run_bind, Sem.run_pure, Result.andThen_ok, List.map_toArray, List.map_cons, List.map_nil, hs, hx, hrun]
 exact h v' w' h2 h3 h4
theorem wpList_append_any {ops : Array Oper} {rest : List Oper} {o : Oper} {a : Act} {Q : Exit -> Act -> World -> Prop} (hgd : o.guard = none) (s x : Operand) (t : TypeId)
 (ho : o.op = .call { callee := .builtin .append, args := #[s, x], argTypes := #[t, t] })
 (base : Nat) (e : TypeId) (i : TypeInfo) (z : Value) (size bytes : Nat) (ht : P.underlying t = some (.slice e)) (hi : P.info? e = some i) (hz : i.zero = some z)
 (hsize : i.size = size) (hby : i.bytes = bytes) (hzs : z.cells.size = size) (hsz : 0 < size)
 (v : Value) (n : Nat) (xs : List Value) (hs : a.eval s = v) (hown : w.ownsRow base e size v n xs)
 (B : Nat) (A : Option Addr) (m c : Nat) (news : List Value) (hx : a.eval x = .slice A m c) (hr : Reads w B size A m news) (h1 : ∀ u ∈ news, u.oneCell' = true)
 (h63 : n + m <= maxLen) (hbytes : (n + m) * bytes <= 140737488355328) (hbase : base <= w.heap.size)
 (h : ∀ v' w', w'.ownsRow base e size v' (n + m) (xs ++ news) -> w.grownBy w' v.ownBlock -> (v'.ownBlock = v.ownBlock ∨ v'.ownBlock = some w.heap.size) -> wpList P ops Q rest (a.put o.dst v') w') : wpList P ops Q (o :: rest) a w :=
 wpList_plain hgd fun _ hK => wp_append_any w s x t ho base e i z size bytes ht hi hz hsize hby hzs hsz v n xs hs hown B A m c news hx hr h1 h63 hbytes hbase fun v' w' h2 h3 h4 => hK _ _ (h v' w' h2 h3 h4)
theorem step_append_any {ops : Array Oper} {o : Oper} {a : Act} {K : Act -> World -> Prop} {Q : Exit -> Act -> World -> Prop} {E : Prop} (hgd : o.guard = none) (s x : Operand) (t : TypeId)
 (ho : o.op = .call { callee := .builtin .append, args := #[s, x], argTypes := #[t, t] })
 (base : Nat) (e : TypeId) (i : TypeInfo) (z : Value) (size bytes : Nat) (ht : P.underlying t = some (.slice e)) (hi : P.info? e = some i) (hz : i.zero = some z)
 (hsize : i.size = size) (hby : i.bytes = bytes) (hzs : z.cells.size = size) (hsz : 0 < size)
 (v : Value) (n : Nat) (xs : List Value) (hs : a.eval s = v) (hown : w.ownsRow base e size v n xs)
 (B : Nat) (A : Option Addr) (m c : Nat) (news : List Value) (hx : a.eval x = .slice A m c) (hr : Reads w B size A m news) (h1 : ∀ u ∈ news, u.oneCell' = true)
 (h63 : n + m <= maxLen) (hbytes : (n + m) * bytes <= 140737488355328) (hbase : base <= w.heap.size)
 (h : ∀ v' w', w'.ownsRow base e size v' (n + m) (xs ++ news) -> w.grownBy w' v.ownBlock -> (v'.ownBlock = v.ownBlock ∨ v'.ownBlock = some w.heap.size) -> K (a.put o.dst v') w') :
 if Region.wanted o (yielded ops a.tmps) = true then Oper.wp P o a w K Q else E := by
 have hw : Region.wanted o (yielded ops a.tmps) = true := by simp [Region.wanted, hgd]
 rw [if_pos hw]
 exact wp_append_any w s x t ho base e i z size bytes ht hi hz hsize hby hzs hsz v n xs hs hown B A m c news hx hr h1 h63 hbytes hbase h
end
structure Elt (α : Type) where
 cells : α -> List Value
 size : Nat
 len : ∀ x, (cells x).length = size
 pos : 0 < size
 one : ∀ x, ∀ u ∈ cells x, u.oneCell' = true
section
variable {α : Type} (E : Elt α)
def Elt.all (l : List α) : List Value := l.flatMap E.cells
theorem Elt.all_len : ∀ l : List α, (E.all l).length = l.length * E.size
 | [] => by simp [Elt.all]
 | x :: l => by
   have h := Elt.all_len l
   simp only [Elt.all, List.flatMap_cons, List.length_append, List.length_cons] at *
   rw [E.len, h, Nat.add_mul]; omega
theorem Elt.all_append (l m : List α) : E.all (l ++ m) = E.all l ++ E.all m := by simp [Elt.all]
theorem Elt.all_one (l : List α) : ∀ u ∈ E.all l, u.oneCell' = true := by
 intro u hu
 simp only [Elt.all, List.mem_flatMap] at hu
 obtain ⟨x, _, h⟩ := hu
 exact E.one x u h
theorem Elt.all_at : ∀ (l : List α) (k : Nat) (hk : k < l.length) (j : Nat), j < E.size -> (E.all l)[k * E.size + j]? = (E.cells l[k])[j]?
 | [], k, hk, _, _ => by simp at hk
 | x :: l, 0, _, j, hj => by
   simp only [Elt.all, List.flatMap_cons, Nat.zero_mul, Nat.zero_add, List.getElem_cons_zero]
   rw [List.getElem?_append_left (by rw [E.len]; exact hj)]
 | x :: l, k + 1, hk, j, hj => by
   have h := Elt.all_at l k (by simpa using hk) j hj
   simp only [Elt.all, List.flatMap_cons, List.getElem_cons_succ] at *
   rw [List.getElem?_append_right (by rw [E.len, Nat.add_mul]; omega), E.len, <- h]
   congr 1
   rw [Nat.add_mul]; omega
def Rd (w : World) (A : Option Addr) (l : List α) : Prop := Reads w w.heap.size E.size A l.length (E.all l)
variable {E} {w w' : World} {A : Option Addr} {l : List α}
theorem Rd.nil : Rd E w A [] := ⟨by simp [Elt.all], fun h => absurd h (by simp)⟩
theorem Rd.ext (h : Rd E w A l) (hb : Ext w w') : Rd E w' A l := (Reads.below h hb).more hb.size
theorem Rd.at (h : Rd E w A l) {k : Nat} (hk : k < l.length) :
 ∃ b o, A = some ⟨b, o, none⟩ /\ b < w.heap.size /\ ∀ j u, (E.cells l[k])[j]? = some u -> w.cell? ⟨b, o + k * E.size + j, none⟩ = some u := by
 obtain ⟨ad, e, hb, hc⟩ := h.2 (by omega)
 have h0 : ∃ u, (E.all l)[0]? = some u := by
  have : 0 < (E.all l).length := by rw [E.all_len]; exact Nat.mul_pos (by omega) E.pos
  exact ⟨_, List.getElem?_eq_getElem this⟩
 obtain ⟨u0, hu0⟩ := h0
 have hsp := World.cell?_spot (hc 0 u0 hu0)
 have hsp' : ad.spot = none := by simpa [Addr.add] using hsp
 obtain ⟨b, o, sp⟩ := ad
 simp only at hsp'
 subst hsp'
 refine ⟨b, o, e, hb, fun j u hu => ?_⟩
 have hj : j < E.size := by
  have := (List.getElem?_eq_some_iff.1 hu).1
  rw [E.len] at this; exact this
 have h2 := hc (k * E.size + j) u (by rw [E.all_at l k hk j hj]; exact hu)
 rw [Addr.add_lit] at h2
 rw [Nat.add_assoc]; exact h2
def Owns (E : Elt α) (w : World) (base : Nat) (e : TypeId) (v : Value) (l : List α) : Prop := w.ownsRow base e E.size v l.length (E.all l)
theorem Owns.none_ (base : Nat) (e : TypeId) : Owns E w base e (.slice none 0 0) [] := ⟨by simp [Elt.all], .inl ⟨rfl, rfl⟩⟩
theorem Owns.form {base : Nat} {e : TypeId} {v : Value} (h : Owns E w base e v l) : ∃ A cap, v = .slice A l.length cap /\ Rd E w A l := by
 have h2 := h
 rcases h.2 with ⟨rfl, h0⟩ | ⟨g, cap, cur, rfl, _, hh, _⟩
 ·have : l = [] := List.eq_nil_of_length_eq_zero h0
  subst this
  exact ⟨none, 0, rfl, Rd.nil⟩
 ·exact ⟨_, cap, rfl, Reads.of_own h2⟩
theorem Owns.ext {base : Nat} {e : TypeId} {v : Value} (h : Owns E w base e v l) (hb : Ext w w') : Owns E w' base e v l :=
 ⟨h.1, h.2.imp id fun ⟨g, cap, cur, hv, hg, hh, r⟩ => ⟨g, cap, cur, hv, hg, (Below.block hb g (Array.getElem?_eq_some_iff.1 hh).1).trans hh, r⟩⟩
theorem Owns.kept {base : Nat} {e : TypeId} {v : Value} (h : Owns E w base e v l) {row : Option Nat} (hg : w.grownBy w' row) (hr : ∀ g, v.ownBlock = some g -> some g ≠ row) : Owns E w' base e v l :=
 ⟨h.1, h.2.imp id fun ⟨g, cap, cur, hv, hgb, hh, r⟩ => ⟨g, cap, cur, hv, hgb, (hg.block g (Array.getElem?_eq_some_iff.1 hh).1 (hr g (by rw [hv]; rfl))).trans hh, r⟩⟩
theorem Owns.mono {base base' : Nat} {e : TypeId} {v : Value} (h : Owns E w base e v l) (hb : base' <= base) : Owns E w base' e v l :=
 ⟨h.1, h.2.imp id fun ⟨g, cap, cur, hv, hg, r⟩ => ⟨g, cap, cur, hv, Nat.le_trans hb hg, r⟩⟩
theorem Owns.block {base : Nat} {e : TypeId} {v : Value} (h : Owns E w base e v l) {g : Nat} (hv : v.ownBlock = some g) : base <= g /\ g < w.heap.size := by
 rcases h.2 with ⟨rfl, _⟩ | ⟨g', cap, cur, rfl, hb, hh, _⟩
 ·cases hv
 ·cases hv
  exact ⟨hb, (Array.getElem?_eq_some_iff.1 hh).1⟩
end
end Go.Proofs.YtemkpimngbbpkaaGreat
/- Lists in memory: append of one element to a list of the call's own. -/
namespace Go.Proofs.YtemkpimngbbpkaaGreat
set_option linter.unusedVariables false
set_option linter.unusedSimpArgs false
open Go.RowKit
section
variable {α : Type} {E : Elt α} {w w' : World} {A : Option Addr} {l : List α} {P : Program}
theorem reads_one {g : Nat} {e : TypeId} {y : α} (h : Blk w g e (E.cells y).toArray) : Reads w w.heap.size E.size (some ⟨g, 0, none⟩) 1 (E.cells y) :=
 ⟨by rw [E.len, Nat.one_mul], fun _ => ⟨_, rfl, h.lt, fun j u hu => by
  rw [Addr.add_lit, Nat.zero_add, h.cell]
  simpa using hu⟩⟩
theorem wpList_push {ops : Array Oper} {rest : List Oper} {o : Oper} {a : Act} {Q : Exit -> Act -> World -> Prop} (hgd : o.guard = none) (s x : Operand) (t : TypeId)
 (ho : o.op = .call { callee := .builtin .append, args := #[s, x], argTypes := #[t, t] })
 (base : Nat) (e : TypeId) (i : TypeInfo) (z : Value) (bytes : Nat) (ht : P.underlying t = some (.slice e)) (hi : P.info? e = some i) (hz : i.zero = some z)
 (hsize : i.size = E.size) (hby : i.bytes = bytes) (hzs : z.cells.size = E.size)
 (v : Value) (hs : a.eval s = v) (hown : Owns E w base e v l)
 (g : Nat) (y : α) (hx : a.eval x = .slice (some ⟨g, 0, none⟩) 1 1) (hy : Blk w g e (E.cells y).toArray)
 (h63 : l.length + 1 <= maxLen) (hbytes : (l.length + 1) * bytes <= 140737488355328) (hbase : base <= w.heap.size)
 (h : ∀ v' w', Owns E w' base e v' (l ++ [y]) -> w.grownBy w' v.ownBlock -> (v'.ownBlock = v.ownBlock ∨ v'.ownBlock = some w.heap.size) -> wpList P ops Q rest (a.put o.dst v') w') : wpList P ops Q (o :: rest) a w :=
 wpList_append_any w hgd s x t ho base e i z E.size bytes ht hi hz hsize hby hzs E.pos v l.length (E.all l) hs hown w.heap.size _ 1 1 (E.cells y) hx (reads_one hy) (E.one y) h63 hbytes hbase
  fun v' w' h1 h2 h3 => h v' w' (by
   unfold Owns
   rw [E.all_append, List.length_append]
   simpa [Elt.all] using h1) h2 h3
theorem ext_grown {w0 : World} {base : Nat} {e : TypeId} {v : Value} (h0 : Ext w0 w) (hown : Owns E w base e v l) (hb : w0.heap.size <= base) (hg : w.grownBy w' v.ownBlock) : Ext w0 w' :=
 Below.grown h0 hg h0.size (fun k hk => Nat.le_trans hb (hown.block hk).1)
end
end Go.Proofs.YtemkpimngbbpkaaGreat
/- Lists in memory: append of a whole list to a list of the call's own. -/
namespace Go.Proofs.YtemkpimngbbpkaaGreat
set_option linter.unusedVariables false
set_option linter.unusedSimpArgs false
open Go.RowKit
section
variable {α : Type} {E : Elt α} {w w' : World} {A : Option Addr} {l m : List α} {P : Program}
theorem Owns.rd {base : Nat} {e : TypeId} {n c : Nat} (h : Owns E w base e (.slice A n c) l) : Rd E w A l := by
 obtain ⟨A2, c2, h2, hr⟩ := h.form
 injection h2 with h3 h4 h5
 rw [h3]; exact hr
theorem Owns.len {base : Nat} {e : TypeId} {n c : Nat} (h : Owns E w base e (.slice A n c) l) : n = l.length := by
 obtain ⟨A2, c2, h2, hr⟩ := h.form
 injection h2
theorem rd_blk {g : Nat} {e : TypeId} (h : Blk w g e (E.all l).toArray) : Rd E w (some ⟨g, 0, none⟩) l :=
 ⟨E.all_len l, fun _ => ⟨_, rfl, h.lt, fun j u hu => by
  rw [Addr.add_lit, Nat.zero_add, h.cell]
  simpa using hu⟩⟩
theorem Owns.made (w : World) (base : Nat) (e : TypeId) (hb : base <= w.heap.size) : Owns E (w.alloc (.cells #[] e)) base e (.slice (some ⟨w.heap.size, 0, none⟩) 0 0) [] :=
 World.ownsRow_made w #[] 0 hb (by unfold maxLen; omega) (by simp)
theorem step_push {ops : Array Oper} {o : Oper} {a : Act} {K : Act -> World -> Prop} {Q : Exit -> Act -> World -> Prop} {Z : Prop} (hgd : o.guard = none) (s x : Operand) (t : TypeId)
 (ho : o.op = .call { callee := .builtin .append, args := #[s, x], argTypes := #[t, t] })
 (base : Nat) (e : TypeId) (i : TypeInfo) (z : Value) (bytes : Nat) (ht : P.underlying t = some (.slice e)) (hi : P.info? e = some i) (hz : i.zero = some z)
 (hsize : i.size = E.size) (hby : i.bytes = bytes) (hzs : z.cells.size = E.size)
 (v : Value) (hs : a.eval s = v) (hown : Owns E w base e v l)
 (g : Nat) (y : α) (hx : a.eval x = .slice (some ⟨g, 0, none⟩) 1 1) (hy : Blk w g e (E.cells y).toArray)
 (h63 : l.length + 1 <= maxLen) (hbytes : (l.length + 1) * bytes <= 140737488355328) (hbase : base <= w.heap.size)
 (h : ∀ v' w', Owns E w' base e v' (l ++ [y]) -> w.grownBy w' v.ownBlock -> (v'.ownBlock = v.ownBlock ∨ v'.ownBlock = some w.heap.size) -> K (a.put o.dst v') w') :
 if Region.wanted o (yielded ops a.tmps) = true then Oper.wp P o a w K Q else Z :=
 step_append_any w hgd s x t ho base e i z E.size bytes ht hi hz hsize hby hzs E.pos v l.length (E.all l) hs hown w.heap.size _ 1 1 (E.cells y) hx (reads_one hy) (E.one y) h63 hbytes hbase
  fun v' w' h1 h2 h3 => h v' w' (by
   unfold Owns
   rw [E.all_append, List.length_append]
   simpa [Elt.all] using h1) h2 h3
def cutA (A : Option Addr) (c k s : Nat) : Option Addr := if c = k then A else A.map (·.add (k * s))
theorem Rd.cut {c k : Nat} (h : Rd E w A l) (hk : k <= l.length) (hc : l.length <= c) : Rd E w (cutA A c k E.size) (l.drop k) := by
 have h1 := Reads.cut h hk hc
 have h2 : (E.all l).drop (k * E.size) = E.all (l.drop k) := by
  have : E.all l = E.all (l.take k) ++ E.all (l.drop k) := by rw [<- E.all_append, List.take_append_drop]
  rw [this, List.drop_append, List.drop_eq_nil_of_le (by rw [E.all_len, List.length_take]; rw [Nat.min_eq_left hk]; exact Nat.le_refl _), E.all_len, List.length_take, Nat.min_eq_left hk, Nat.sub_self, List.drop_zero, List.nil_append]
 unfold Rd
 rw [List.length_drop, <- h2]
 exact h1
theorem run_cut {t e : TypeId} {i : TypeInfo} {sz : Nat} (ht : P.underlying t = some (.slice e)) (hi : P.info? e = some i) (hsz : i.size = sz) {n c k : Nat} (hk : k <= n) (w : World) :
 (Instr.slice t (.slice A n c) (some (.int .i64 (k : Int))) none none).run P w = .ok (.slice (cutA A c k sz) (n - k) (c - k)) w := by
 have he : P.elem t = e := by simp [Program.elem, ht]
 rw [run_slice_l w t A n c (by rw [he]; exact ht) .i64 (k : Int) (by omega) (by omega), he, run_sizeOf w hi]
 simp [Result.andThen, sliced, cutA, Program.cellsOf, hi, hsz]
theorem run_cutAt {t e : TypeId} {i : TypeInfo} {sz : Nat} (ht : P.underlying t = some (.slice e)) (hi : P.info? e = some i) (hsz : i.size = sz) {n c k : Nat} (hk : k <= n) (w : World) :
 (Instr.sliceAt t (.slice A n c) (some (.int .i64 (k : Int))) none none).run P w = .ok (.slice (cutA A c k sz) (n - k) (c - k)) w := by
 have he : P.elem t = e := by simp [Program.elem, ht]
 rw [run_sliceAt_slice w t _ _ _ _ (by rw [he]; exact ht), run_cut ht hi hsz hk]
theorem wpList_cat {ops : Array Oper} {rest : List Oper} {o : Oper} {a : Act} {Q : Exit -> Act -> World -> Prop} (hgd : o.guard = none) (s x : Operand) (t : TypeId)
 (ho : o.op = .call { callee := .builtin .append, args := #[s, x], argTypes := #[t, t] })
 (base : Nat) (e : TypeId) (i : TypeInfo) (z : Value) (bytes : Nat) (ht : P.underlying t = some (.slice e)) (hi : P.info? e = some i) (hz : i.zero = some z)
 (hsize : i.size = E.size) (hby : i.bytes = bytes) (hzs : z.cells.size = E.size)
 (v : Value) (hs : a.eval s = v) (hown : Owns E w base e v l)
 (c n : Nat) (hx : a.eval x = .slice A n c) (hn : n = m.length) (hr : Rd E w A m)
 (h63 : l.length + m.length <= maxLen) (hbytes : (l.length + m.length) * bytes <= 140737488355328) (hbase : base <= w.heap.size)
 (h : ∀ v' w', Owns E w' base e v' (l ++ m) -> w.grownBy w' v.ownBlock -> (v'.ownBlock = v.ownBlock ∨ v'.ownBlock = some w.heap.size) -> wpList P ops Q rest (a.put o.dst v') w') : wpList P ops Q (o :: rest) a w := by
 subst hn
 exact wpList_append_any w hgd s x t ho base e i z E.size bytes ht hi hz hsize hby hzs E.pos v l.length (E.all l) hs hown w.heap.size A m.length c (E.all m) hx hr (E.all_one m) h63 hbytes hbase
  fun v' w' h1 h2 h3 => h v' w' (by
   unfold Owns
   rw [E.all_append, List.length_append]
   exact h1) h2 h3
end
end Go.Proofs.YtemkpimngbbpkaaGreat
/- Lists in memory: a store into a list of the call's own; clear. -/
namespace Go.Proofs.YtemkpimngbbpkaaGreat
set_option linter.unusedVariables false
set_option linter.unusedSimpArgs false
open Go.RowKit
def arrSets (cs : Array Value) : Nat -> List Value -> Array Value
 | _, [] => cs
 | o, v :: vs => arrSets (cs.setIfInBounds o v) (o + 1) vs
theorem arrSets_size : ∀ (vs : List Value) (cs : Array Value) (o : Nat), (arrSets cs o vs).size = cs.size
 | [], _, _ => rfl
 | v :: vs, cs, o => by simp [arrSets, arrSets_size vs]
theorem arrSets_get : ∀ (vs : List Value) (cs : Array Value) (o q : Nat), o + vs.length <= cs.size -> (arrSets cs o vs)[q]? = if o <= q /\ q < o + vs.length then vs[q - o]? else cs[q]?
 | [], cs, o, q, _ => by
   simp only [arrSets, List.length_nil]
   rw [if_neg (by omega)]
 | v :: vs, cs, o, q, h => by
   simp only [arrSets]
   rw [List.length_cons] at h
   rw [arrSets_get vs _ (o + 1) q (by simp; omega), Array.getElem?_setIfInBounds, List.length_cons]
   by_cases h1 : o + 1 <= q /\ q < o + 1 + vs.length
   ·rw [if_pos h1, if_pos (by omega)]
    obtain ⟨d, rfl⟩ : ∃ d, q = o + 1 + d := ⟨q - (o + 1), by omega⟩
    rw [show o + 1 + d - (o + 1) = d by omega, show o + 1 + d - o = d + 1 by omega]
    rfl
   ·rw [if_neg h1]
    by_cases h2 : o = q
    ·subst h2
     rw [if_pos rfl, if_pos (by omega), if_pos (by omega), Nat.sub_self]
     rfl
    ·rw [if_neg h2, if_neg (by omega)]
theorem Blk.setCells_ : ∀ (vs : List Value) {w : World} {g : Nat} {t : TypeId} {cs : Array Value} (_ : Blk w g t cs) (o : Nat), Blk (w.setCells g o vs) g t (arrSets cs o vs)
 | [], _, _, _, _, h, _ => h
 | v :: vs, _, _, _, _, h, o => Blk.setCells_ vs (h.set_ o v) (o + 1)
theorem grown_setCells : ∀ (vs : List Value) {a w : World} {g : Nat} (_ : a.grownBy w (some g)) (o : Nat), a.grownBy (w.setCells g o vs) (some g)
 | [], _, _, _, h, _ => h
 | v :: vs, a, w, g, h, o => grown_setCells vs (w := w.setCell ⟨g, o, none⟩ v) ⟨h.os, h.tape, h.output, by simpa [World.setCell] using h.size, fun i hi hne => (Below.heap_setCell w ⟨g, o, none⟩ v i (fun e => hne (by rw [e]))).trans (h.block i hi hne)⟩ (o + 1)
theorem ext_setCells {a w : World} {g : Nat} (h : Ext a w) (hg : a.heap.size <= g) (o : Nat) (vs : List Value) : Ext a (w.setCells g o vs) :=
 Below.grown h (grown_setCells vs (World.grownBy.refl w _) o) h.size (fun k hk => by injection hk with hk; omega)
section
variable {α : Type} {E : Elt α} {w w' : World} {A : Option Addr} {l m : List α} {P : Program}
theorem Owns.there_ {base : Nat} {e : TypeId} {g n c : Nat} (h : Owns E w base e (.slice (some ⟨g, 0, none⟩) n c) m) :
 ∃ cur : Array Value, Blk w g e cur /\ cur.size = c * E.size /\ m.length <= c /\ ∀ (k : Nat) (hk : k < m.length) (j : Nat), j < E.size -> cur[k * E.size + j]? = (E.cells m[k])[j]? := by
 have hn := h.len
 subst hn
 rcases h.2 with ⟨h1, _⟩ | ⟨g', cap, cur, h1, hg, hh, hnc, hcap, hsz, ht⟩
 ·cases h1
 ·injection h1 with h2 h3 h4
  injection h2 with h2
  injection h2 with h2
  subst h2 h4
  refine ⟨cur, hh, hsz, hnc, fun k hk j hj => ?_⟩
  rw [<- E.all_at m k hk j hj, <- ht]
  have hle : (k + 1) * E.size <= m.length * E.size := Nat.mul_le_mul_right _ hk
  rw [Nat.add_mul, Nat.one_mul] at hle
  rw [List.getElem?_take_of_lt (by omega), Array.getElem?_toList]
end
end Go.Proofs.YtemkpimngbbpkaaGreat
/- Lists in memory: lists of integers; a list's beginning. -/
namespace Go.Proofs.YtemkpimngbbpkaaGreat
set_option linter.unusedVariables false
set_option linter.unusedSimpArgs false
open Go.RowKit
def EInt : Elt Int := ⟨fun x => [.int .i64 x], 1, fun _ => rfl, by omega, fun x u hu => by simp at hu; subst hu; rfl⟩
theorem Rd.int {w : World} {A : Option Addr} {l : List Int} (h : Rd EInt w A l) {k : Nat} (hk : k < l.length) : ∃ b o, A = some ⟨b, o, none⟩ /\ b < w.heap.size /\ w.cell? ⟨b, o + k, none⟩ = some (.int .i64 l[k]) := by
 obtain ⟨b, o, rfl, hb, hc⟩ := h.at hk
 refine ⟨b, o, rfl, hb, ?_⟩
 have := hc 0 (.int .i64 l[k]) rfl
 simpa [EInt] using this
section
variable {α : Type} {E : Elt α} {w w' : World} {A : Option Addr} {l m : List α} {P : Program}
theorem Rd.take (h : Rd E w A l) (k : Nat) : Rd E w A (l.take k) := by
 refine ⟨E.all_len _, fun hn => ?_⟩
 have hn' : 0 < (l.take k).length := hn
 rw [List.length_take] at hn'
 obtain ⟨ad, e, hb, hc⟩ := h.2 (by omega)
 refine ⟨ad, e, hb, fun j u hu => hc j u ?_⟩
 have : E.all l = E.all (l.take k) ++ E.all (l.drop k) := by rw [<- E.all_append, List.take_append_drop]
 rw [this, List.getElem?_append_left (List.getElem?_eq_some_iff.1 hu).1]
 exact hu
theorem addr_map0 (A : Option Addr) (s : Nat) : A.map (·.add (0 * s)) = A := by
 cases A <;> simp [Addr.add]
theorem run_take {t e : TypeId} {i : TypeInfo} (ht : P.underlying t = some (.slice e)) (hi : P.info? e = some i) {n c k : Nat} (hk : k <= c) (w : World) :
 (Instr.slice t (.slice A n c) none (some (.int .i64 (k : Int))) none).run P w = .ok (.slice A k c) w := by
 have he : P.elem t = e := by simp [Program.elem, ht]
 rw [run_slice_h w t A n c (by rw [he]; exact ht) .i64 (k : Int) (by omega) (by omega), he, run_sizeOf w hi]
 simp only [Result.andThen, sliced, addr_map0, ite_self]
 simp
theorem run_takeAt {t e : TypeId} {i : TypeInfo} (ht : P.underlying t = some (.slice e)) (hi : P.info? e = some i) {n c k : Nat} (hk : k <= c) (w : World) :
 (Instr.sliceAt t (.slice A n c) none (some (.int .i64 (k : Int))) none).run P w = .ok (.slice A k c) w := by
 have he : P.elem t = e := by simp [Program.elem, ht]
 rw [run_sliceAt_slice w t _ _ _ _ (by rw [he]; exact ht)]
 exact run_take ht hi hk w
theorem take_snoc {l : List α} {k : Nat} {x : α} (h : k < l.length) (hx : l[k] = x) : l.take (k + 1) = l.take k ++ [x] := by
 rw [List.take_succ_eq_append_getElem h, hx]
theorem any_step {p : α -> Bool} {l : List α} {k : Nat} {y : α} (h : k < l.length) (hy : l[k] = y) (h0 : (l.take k).any p = false) (h1 : p y = false) : (l.take (k + 1)).any p = false := by
 rw [take_snoc h hy, List.any_append, h0]; simp [h1]
theorem any_hit {p : α -> Bool} {l : List α} {k : Nat} {y : α} (h : k < l.length) (hy : l[k] = y) (h1 : p y = true) : l.any p = true :=
 List.any_eq_true.2 ⟨y, hy ▸ List.getElem_mem h, h1⟩
def findI (p : α -> Bool) (l : List α) : Int := if l.any p then (l.findIdx p : Nat) else -1
theorem findI_at {p : α -> Bool} {l : List α} {k : Nat} (h : k < l.length) (h1 : (l.take k).any p = false) (h2 : p l[k] = true) : findI p l = k := by
 have h3 : l.any p = true := List.any_eq_true.2 ⟨l[k], List.getElem_mem h, h2⟩
 have h4 : l.findIdx p = k := (List.findIdx_eq h).2 ⟨h2, fun j hj => by
  have h5 := List.any_eq_false.1 h1 (l[j]'(by omega)) (by
   rw [List.mem_take_iff_getElem]
   exact ⟨j, by omega, rfl⟩)
  simpa using h5⟩
 unfold findI
 rw [if_pos h3, h4]
theorem findI_nope {p : α -> Bool} {l : List α} (h : l.any p = false) : findI p l = -1 := by unfold findI; rw [h]; rfl
theorem findI_neg {p : α -> Bool} {l : List α} : decide (0 <= findI p l) = l.any p := by
 unfold findI
 split
 ·rename_i h; rw [h]; simp
 ·rename_i h; simp at h; simp; exact h
end
end Go.Proofs.YtemkpimngbbpkaaGreat
/- Lists of integers of the call's own: reading and writing one; what stays when one block is written. -/
namespace Go.Proofs.YtemkpimngbbpkaaGreat
set_option linter.unusedVariables false
set_option linter.unusedSimpArgs false
open Go.RowKit
def gi (m : List Int) (i : Int) : Int := m.getD i.toNat 0
theorem gi_get {m : List Int} {k : Nat} (h : k < m.length) : gi m (k : Int) = m[k] := by simp [gi, h]
theorem gi_of {m : List Int} {i : Int} (h0 : 0 <= i) (h : i.toNat < m.length) : gi m i = m[i.toNat] := by simp [gi, h]
theorem gi_mem {m : List Int} {i : Int} (h : i.toNat < m.length) : gi m i ∈ m := by simp [gi, h]
theorem gi_set {m : List Int} {i j v : Int} (hi : i.toNat < m.length) : gi (m.set i.toNat v) j = if j.toNat = i.toNat then v else gi m j := by
 unfold gi
 simp only [List.getD_eq_getElem?_getD]
 by_cases h : j.toNat = i.toNat
 ·rw [if_pos h, h, List.getElem?_set_self hi]; rfl
 ·rw [if_neg h, List.getElem?_set_ne (by omega)]
theorem grown_setCell {a w : World} {g : Nat} (h : a.grownBy w (some g)) (o : Nat) (u : Value) : a.grownBy (w.setCell ⟨g, o, none⟩ u) (some g) := grown_setCells [u] h o
theorem grown_ext {a w w' : World} {row : Option Nat} (h : a.grownBy w row) (hb : Ext w w') : a.grownBy w' row :=
 ⟨hb.os.trans h.os, hb.tape.trans h.tape, hb.output.trans h.output, Nat.le_trans h.size hb.size, fun i hi hn => (hb.block i (Nat.lt_of_lt_of_le hi h.size)).trans (h.block i hi hn)⟩
theorem ext_of_grown {w0 a w : World} {g : Nat} (h0 : Ext w0 a) (h : a.grownBy w (some g)) (hg : w0.heap.size <= g) : Ext w0 w :=
 Below.grown h0 h h0.size (fun k hk => by injection hk with hk; omega)
theorem Rd.gi {w : World} {b o : Nat} {l : List Int} (h : Rd EInt w (some ⟨b, o, none⟩) l) {i : Int} (hi : i.toNat < l.length) : w.cell? ⟨b, o + i.toNat, none⟩ = some (.int .i64 (gi l i)) /\ b < w.heap.size := by
 obtain ⟨b', o', e', hb', hc⟩ := h.int hi
 injection e' with e'
 injection e' with e1 e2 _
 subst e1 e2
 refine ⟨?_, hb'⟩
 rw [hc]
 simp [Go.Proofs.YtemkpimngbbpkaaGreat.gi, hi]
theorem Owns.cap {α : Type} {E : Elt α} {w : World} {base : Nat} {e : TypeId} {A : Option Addr} {n c : Nat} {m : List α} (h : Owns E w base e (.slice A n c) m) : m.length <= c := by
 rcases h.2 with ⟨h1, h2⟩ | ⟨g', cap, cur, h1, hg, hh, hnc, _⟩
 ·omega
 ·injection h1 with _ _ h4
  omega
end Go.Proofs.YtemkpimngbbpkaaGreat
namespace Go.Proofs.YtemkpimngbbpkaaGreat
set_option linter.unusedVariables false
set_option linter.unusedSimpArgs false
open Go.ChangeShapes Go.WideShapes Go.ChangeAt Go.RowKit Go.Deep
section
variable {H : Type} {enc : TypeId × Value -> H} {P : Program}
theorem trodAll_stays (hl : laidOutB P = true) {W W' : World} {sp : Nat -> Bool} : ∀ {ts : List TypeId} {vs : List Value} {ds : List (DataW H)} {ps : List MemPlace},
 ts.all (fun t => P.readableRec t && decide (t < P.types.size)) = true -> DataW.TrodAll enc P W 0 (fun _ => true) true ts vs ds ps -> (∀ p ∈ ps, W.sameAt W' p) -> (∀ p ∈ ps, sp p.block = true) ->
 DataW.TrodAll enc P W' 0 sp true ts vs ds ps
 | [], [], [], _, _, h, _, _ => h
 | [], [], _ :: _, _, _, h, _, _ => h.elim
 | [], _ :: _, _, _, _, h, _, _ => h.elim
 | _ :: _, [], _, _, _, h, _, _ => h.elim
 | _ :: _, _ :: _, [], _, _, h, _, _ => h.elim
 | t :: ts, v :: vs, d :: ds, ps, hr, h, hs, hp => by
   obtain ⟨p, q, h1, h2, rfl⟩ := h
   simp only [List.all_cons, Bool.and_eq_true, decide_eq_true_eq] at hr
   exact ⟨p, q, WideElems.Trod_stays hl hr.1.1 hr.1.2 h1 (fun x hx => hs x (List.mem_append_left _ hx)) (fun x hx => hp x (List.mem_append_left _ hx)),
    trodAll_stays hl hr.2 h2 (fun x hx => hs x (List.mem_append_right _ hx)) (fun x hx => hp x (List.mem_append_right _ hx)), rfl⟩
theorem law_post {f : Func} {s : ChangeSpec} {W W' : World} {args : Array Value} {ds gs : List (DataW H)} {before : List MemPlace} {tb : TypeId}
 (hl : laidOutB P = true) (hr : f.params.toList.all (fun t => P.readableRec t && decide (t < P.types.size)) = true) (hsv : s.vars = [])
 (hfn : s.fn H (ds ++ gs) = { results := [.lit (.bool true)], args := ds }) (hrt : f.resultTypes = #[tb]) (htb : P.underlying tb = some .bool)
 (hW : DataW.Whole enc P f.params.toList s.vars false W args.toList ds gs before) (hb : Ext W W') : s.post enc P f false true false false W args (.bool true) W' := by
 have hlt := fun p (hp : p ∈ before) => hW.lt p hp
 have hW2 := hW
 obtain ⟨p, q, hA, hV, rfl, _, _⟩ := hW2
 have hq : q = [] := by
  rw [hsv] at hV
  exact (trodVars_none hV).2
 subst hq
 refine ⟨ds, gs, p ++ [], [], p, [], hW, ?_, ?_, ?_, World.keptBut_mono (fun x hx => ⟨hx, .inr (.inl (by simpa using hx))⟩) (hb.frame (· ∈ p ++ [])), fun h => by cases h⟩
 ·rw [hfn, hrt]
  exact trodAll_cons_mk (shut_bool htb _) trodAll_mk0
 ·rw [hfn]
  exact trodAll_stays hl hr hA (fun x hx => hb.same (hlt x (List.mem_append_left _ hx))) (fun x hx => by simpa using hlt x (List.mem_append_left _ hx))
 ·rw [hfn, hsv]
  rfl
end
end Go.Proofs.YtemkpimngbbpkaaGreat
/- What comes in: a struct of numbers and truth values (structs in structs too), and a slice of such, read as plain data. -/
namespace Go.Proofs.YtemkpimngbbpkaaGreat
set_option linter.unusedVariables false
set_option linter.unusedSimpArgs false
open Go.ChangeShapes Go.WideShapes Go.ChangeAt Go.RowKit Go.Deep
inductive CK where
 | i64
 | bool
 | num (k : IntKind)
 | str
def CK.ok : CK -> Value -> Prop
 | .i64, v => ∃ z : Int, v = .int .i64 z /\ (Lit.int .i64 z).wf = true
 | .num k, v => ∃ z : Int, v = .int k z /\ (Lit.int k z).wf = true
 | .bool, v => ∃ b : Bool, v = .bool b
 | .str, v => ∃ b : ByteArray, v = .string b
def CKs : List CK -> List Value -> Prop
 | [], [] => True
 | k :: ks, v :: vs => k.ok v /\ CKs ks vs
 | _, _ => False
theorem CKs.append : ∀ {ks ls : List CK} {vs us : List Value}, CKs ks vs -> CKs ls us -> CKs (ks ++ ls) (vs ++ us)
 | [], _, [], _, _, h => h
 | _ :: _, _, [], _, h, _ => h.elim
 | [], _, _ :: _, _, h, _ => h.elim
 | _ :: _, _, _ :: _, _, h, g => ⟨h.1, CKs.append h.2 g⟩
theorem CKs.ints : ∀ {n : Nat} {vs : List Value}, CKs (List.replicate n .i64) vs -> ∃ zs : List Int, zs.length = n /\ vs = zs.map (Value.int .i64) /\ ∀ z ∈ zs, (Lit.int .i64 z).wf = true
 | 0, [], _ => ⟨[], rfl, rfl, by simp⟩
 | 0, _ :: _, h => h.elim
 | _ + 1, [], h => h.elim
 | n + 1, v :: vs, h => by
   obtain ⟨⟨z, rfl, hz⟩, h2⟩ := h
   obtain ⟨zs, h3, rfl, h4⟩ := CKs.ints (n := n) h2
   exact ⟨z :: zs, by simp [h3], rfl, by simpa using ⟨hz, h4⟩⟩
theorem CKs.split : ∀ {ks ls : List CK} {vs : List Value}, CKs (ks ++ ls) vs -> ∃ us ws, vs = us ++ ws /\ CKs ks us /\ CKs ls ws
 | [], _, vs, h => ⟨[], vs, rfl, trivial, h⟩
 | _ :: _, _, [], h => h.elim
 | _ :: _, _, v :: vs, h => by
   obtain ⟨us, ws, rfl, h1, h2⟩ := CKs.split h.2
   exact ⟨v :: us, ws, rfl, ⟨h.1, h1⟩, h2⟩
def tile (P : Program) (g : TypeId -> Option (List CK)) : List Field -> Nat -> Option (List CK)
 | [], _ => some []
 | f :: fs, off =>
   if f.offset = off then
    match g f.type with
    | some ks => if P.cellsOf f.type = ks.length then (match tile P g fs (off + ks.length) with | some ls => some (ks ++ ls) | none => none) else none
    | none => none
   else none
def flatK (P : Program) : Nat -> TypeId -> Option (List CK)
 | 0, _ => none
 | n + 1, t =>
   match P.underlying t with
   | some (.int .i64) => some [.i64]
   | some (.int k) => some [.num k]
   | some .bool => some [.bool]
   | some .string => some [.str]
   | some (.struct fs) =>
     match tile P (flatK P n) fs.toList 0 with
     | some ks => if P.cellsOf t = ks.length then some ks else none
     | none => none
   | _ => none
section
variable {H : Type} {enc : TypeId × Value -> H} {P : Program} {w : World} {base : Nat} {spare : Nat -> Bool} {held : Bool}
theorem tile_ok (g : TypeId -> Option (List CK)) (m : Nat) (cs : List Value) (hg : ∀ t ks, g t = some ks -> ∀ vs x, DataW.trod enc P w base spare held m t vs = some x -> CKs ks vs) :
 ∀ (fs : List Field) (off : Nat) (ks : List CK), tile P g fs off = some ks -> (∀ f ∈ fs, ∃ x, DataW.trod enc P w base spare held m f.type ((cs.drop f.offset).take (P.cellsOf f.type)) = some x) -> CKs ks ((cs.drop off).take ks.length)
 | [], off, ks, h, _ => by
   simp only [tile, Option.some.injEq] at h
   subst h; exact trivial
 | f :: fs, off, ks, h, hr => by
   simp only [tile] at h
   split at h
   ·rename_i h0
    split at h
    ·rename_i ks1 h1
     split at h
     ·rename_i h2
      split at h
      ·rename_i ls h3
       injection h with h
       subst h
       obtain ⟨x, hx⟩ := hr f (by simp)
       have a1 := hg _ _ h1 _ _ hx
       rw [h0, h2] at a1
       have a2 := tile_ok g m cs hg fs _ ls h3 (fun f' hf' => hr f' (by simp [hf']))
       have e : (cs.drop off).take (ks1 ++ ls).length = (cs.drop off).take ks1.length ++ (cs.drop (off + ks1.length)).take ls.length := by
        rw [List.length_append, List.take_add, List.drop_drop]
       rw [e]
       exact CKs.append a1 a2
      ·cases h
     ·cases h
    ·cases h
   ·cases h
theorem flat_trod : ∀ (n : Nat) (t : TypeId) (ks : List CK), flatK P n t = some ks -> ∀ m vs x, DataW.trod enc P w base spare held m t vs = some x -> CKs ks vs
 | 0, _, _, h => by cases h
 | n + 1, t, ks, h => by
   intro m vs x hx
   unfold flatK at h
   split at h
   ·rename_i ht
    injection h with h
    subst h
    obtain ⟨z, rfl, _, hw⟩ := DataW.trod_int ht hx
    exact ⟨⟨z, rfl, hw⟩, trivial⟩
   ·rename_i ht
    injection h with h
    subst h
    obtain ⟨z, rfl, _, hw⟩ := DataW.trod_int ht hx
    exact ⟨⟨z, rfl, hw⟩, trivial⟩
   ·rename_i ht
    injection h with h
    subst h
    obtain ⟨z, rfl, _⟩ := DataW.trod_bool ht hx
    exact ⟨⟨z, rfl⟩, trivial⟩
   ·rename_i ht
    injection h with h
    subst h
    obtain ⟨z, rfl, _⟩ := DataW.trod_string ht hx
    exact ⟨⟨z, rfl⟩, trivial⟩
   ·rename_i fs ht
    split at h
    ·rename_i ks1 h1
     split at h
     ·rename_i h2
      injection h with h
      subst h
      obtain ⟨xs, m', _, _, hl, hxl, hf⟩ := DataW.trod_struct ht hx
      have := tile_ok (flatK P n) m' vs (fun t ks hk vs x hx => flat_trod n t ks hk m' vs x hx) fs.toList 0 ks1 h1 (fun f hf' => by
       obtain ⟨i, hi, he⟩ := List.getElem_of_mem hf'
       have hi' : i < fs.size := by simpa using hi
       have h3 := hf i f (by rw [Array.getElem?_eq_getElem hi']; rw [<- he]; rfl)
       exact ⟨xs[i], h3.trans (List.getElem?_eq_getElem (by omega))⟩)
      rw [List.drop_zero, <- h2, <- hl, List.take_length] at this
      exact this
     ·cases h
    ·cases h
   ·cases h
theorem list_of {α : Type} {q : Nat -> α -> Prop} : ∀ (n : Nat), (∀ i, i < n -> ∃ x, q i x) -> ∃ l : List α, l.length = n /\ ∀ (i : Nat) (h : i < l.length), q i l[i]
 | 0, _ => ⟨[], rfl, fun i h => by simp at h⟩
 | n + 1, h => by
   obtain ⟨l, hl, hq⟩ := list_of n (fun i hi => h i (by omega))
   obtain ⟨x, hx⟩ := h n (by omega)
   refine ⟨l ++ [x], by simp [hl], fun i hi => ?_⟩
   by_cases hin : i < l.length
   ·rw [List.getElem_append_left hin]; exact hq i hin
   ·have : i = n := by simp [hl] at hi; omega
    subst this
    subst hl
    simpa using hx
theorem open_list_at {α : Type} (E : Elt α) (wf : α -> Prop) {t e : TypeId} {ks : List CK} {n : Nat} {v : Value} {d : DataW H} {p : List MemPlace} (ht : P.underlying t = some (.slice e)) (hk : flatK P n e = some ks) (hC : P.cellsOf e = E.size)
 (dec : ∀ cs, CKs ks cs -> ∃ x : α, cs = E.cells x /\ wf x) (hone : v.cells.toList = [v]) (h : DataW.Trod enc P w base spare held t v d p) :
 ∃ (A : Option Addr) (c : Nat) (l : List α), v = .slice A l.length c /\ Rd E w A l /\ l.length <= c /\ c <= maxLen /\ ∀ x ∈ l, wf x := by
 obtain ⟨fuel, hf⟩ := h
 rcases open_slice ht hf with ⟨h1, _⟩ | ⟨a, len, cap, m, n', D, Pl, h1, hb, hl, hm, hmm, _, hi⟩
 ·rw [hone] at h1
  injection h1 with h1
  subst h1
  exact ⟨none, 0, [], rfl, Rd.nil, Nat.le_refl _, Nat.zero_le _, by simp⟩
 ·rw [hone] at h1
  injection h1 with h1
  subst h1
  have hlm : len <= m := by rw [hmm]; split <;> omega
  obtain ⟨l, hll, hq⟩ := list_of (q := fun i (x : α) => wf x /\ w.cells? base (a.add (i * P.cellsOf e)) (P.cellsOf e) = some (E.cells x)) len (fun i hil => by
   obtain ⟨cs', hc, ht'⟩ := hi i (by omega)
   obtain ⟨x, hx, hwf⟩ := dec cs' (flat_trod n e ks hk _ _ _ ht')
   exact ⟨x, hwf, by rw [hc, hx]⟩)
  subst hll
  refine ⟨some a, cap, l, rfl, ⟨E.all_len l, fun hn => ⟨a, rfl, ?_, ?_⟩⟩, hl, hm, ?_⟩
  ·have h0 := (hq 0 hn).2
   obtain ⟨_, hcl, hat⟩ := World.cells?_some h0
   have h2 := hat 0 (by rw [hC]; exact E.pos)
   have h3 : (E.cells l[0])[0]? = some ((E.cells l[0])[0]'(by rw [E.len]; exact E.pos)) := List.getElem?_eq_getElem _
   rw [h3] at h2
   have := cell_lt h2
   simpa [block_of_add] using this
  ·intro j u hu
   have hpos := E.pos
   have hj : j < (E.all l).length := (List.getElem?_eq_some_iff.1 hu).1
   rw [E.all_len] at hj
   have hk1 : j / E.size < l.length := Nat.div_lt_of_lt_mul (by rw [Nat.mul_comm]; exact hj)
   have hr : j % E.size < E.size := Nat.mod_lt _ hpos
   have e1 : j / E.size * E.size + j % E.size = j := by rw [Nat.mul_comm]; exact Nat.div_add_mod j E.size
   have h2 := E.all_at l (j / E.size) hk1 (j % E.size) hr
   rw [e1, hu] at h2
   obtain ⟨_, hcl, hat⟩ := World.cells?_some (hq _ hk1).2
   have h3 := hat (j % E.size) (by rw [hC]; exact hr)
   rw [<- h2, hC, Go.Deep.add_add, e1] at h3
   exact h3
  ·intro x hx
   obtain ⟨i, hi', he⟩ := List.getElem_of_mem hx
   rw [<- he]
   exact (hq i hi').1
theorem open_list {α : Type} (E : Elt α) (wf : α -> Prop) {r : Reach} {b0 : Nat} {t e : TypeId} {ks : List CK} {n : Nat} {v : Value} {d : DataW H} {p : List MemPlace} (ht : P.underlying t = some (.slice e)) (hk : flatK P n e = some ks) (hC : P.cellsOf e = E.size)
 (dec : ∀ cs, CKs ks cs -> ∃ x : α, cs = E.cells x /\ wf x) (hv : Value.okWide P w r b0 t v) (h : DataW.Trod enc P w base spare held t v d p) :
 ∃ (A : Option Addr) (c : Nat) (l : List α), v = .slice A l.length c /\ Rd E w A l /\ l.length <= c /\ c <= maxLen /\ ∀ x ∈ l, wf x :=
 open_list_at E wf ht hk hC dec (by obtain ⟨a, l, c, rfl⟩ := okWide_slice ht hv; rfl) h
theorem open_list_cell {α : Type} (E : Elt α) (wf : α -> Prop) {t e : TypeId} {ks : List CK} {n m : Nat} {v : Value} {x : DataW H × List MemPlace} (ht : P.underlying t = some (.slice e)) (hk : flatK P n e = some ks) (hC : P.cellsOf e = E.size)
 (dec : ∀ cs, CKs ks cs -> ∃ x : α, cs = E.cells x /\ wf x) (h : DataW.trod enc P w base spare held m t [v] = some x) :
 ∃ (A : Option Addr) (c : Nat) (l : List α), v = .slice A l.length c /\ Rd E w A l /\ l.length <= c /\ c <= maxLen /\ ∀ x ∈ l, wf x := by
 have hone : v.cells.toList = [v] := by
  rcases open_slice ht h with ⟨h1, _⟩ | ⟨a, len, cap, m, n', D, Pl, h1, _⟩
  ·injection h1 with h1; subst h1; rfl
  ·injection h1 with h1; subst h1; rfl
 exact open_list_at E wf ht hk hC dec hone ⟨m, by rw [hone]; exact h⟩
end
end Go.Proofs.YtemkpimngbbpkaaGreat
namespace Go.Proofs.YtemkpimngbbpkaaGreat
set_option linter.unusedVariables false
set_option linter.unusedSimpArgs false
open Go.RowKit
def inB (n lo hi : Int) : Bool := decide (lo <= n /\ n <= hi)
structure Con where
 src : Int
 dst : Int
 st : Int
 en : Int
 rate : Int
 rng : Int
 loss : Int
def Con.cells (c : Con) : Array Value := #[.int .i64 c.src, .int .i64 c.dst, .int .i64 c.st, .int .i64 c.en, .int .i64 c.rate, .int .i64 c.rng, .int .i64 c.loss]
def Con.val (c : Con) : Value := .agg #[.int .i64 c.src, .int .i64 c.dst, .int .i64 c.st, .int .i64 c.en, .int .i64 c.rate, .int .i64 c.rng, .int .i64 c.loss]
def Con.inr (c : Con) : Bool := inB c.src 0 15 && inB c.dst 0 15 && inB c.rate 1 1000 && inB c.rng 1 1048576 && inB c.loss 0 16
def Con.tim (c : Con) : Bool := decide (0 <= c.st /\ c.st < c.en /\ c.en <= 1099511627776 - 2 * c.rng)
def Con.check (c : Con) : Int := if c.inr = false then 2 else if c.src = c.dst then 1 else if c.tim = false then 2 else 0
structure Con.Ok (c : Con) : Prop where
 src0 : 0 <= c.src
 src1 : c.src <= 15
 dst0 : 0 <= c.dst
 dst1 : c.dst <= 15
 rate0 : 1 <= c.rate
 rate1 : c.rate <= 1000
 rng0 : 1 <= c.rng
 rng1 : c.rng <= 1048576
 loss0 : 0 <= c.loss
 loss1 : c.loss <= 16
 ne : c.src ≠ c.dst
 st0 : 0 <= c.st
 st1 : c.st < c.en
 en1 : c.en <= 1099511627776 - 2 * c.rng
theorem Con.check_iff (c : Con) : c.check = 0 ↔ c.Ok := by
 unfold Con.check
 constructor
 ·intro h
  split at h
  ·omega
  ·rename_i h1
   split at h
   ·omega
   ·rename_i h2
    split at h
    ·omega
    ·rename_i h3
     simp only [Bool.not_eq_false] at h1 h3
     simp only [Con.inr, Con.tim, inB, Bool.and_eq_true, decide_eq_true_eq] at h1 h3
     exact ⟨h1.1.1.1.1.1, h1.1.1.1.1.2, h1.1.1.1.2.1, h1.1.1.1.2.2, h1.1.1.2.1, h1.1.1.2.2, h1.1.2.1, h1.1.2.2, h1.2.1, h1.2.2, h2, h3.1, h3.2.1, h3.2.2⟩
 ·rintro ⟨h1, h2, h3, h4, h5, h6, h7, h8, h9, h10, h11, h12, h13, h14⟩
  have e1 : c.inr = true := by simp only [Con.inr, inB, Bool.and_eq_true, decide_eq_true_eq]; omega
  have e2 : c.tim = true := by simp only [Con.tim, decide_eq_true_eq]; omega
  simp [e1, e2, h11]
def Con.ticks (c : Con) (n : Int) : Int := (n + 8 + c.rate - 1) / c.rate
def Con.pass (c : Con) (size : Int) : Int := size / 16 * c.ticks 16 + if size % 16 > 0 then c.ticks (size % 16) else 0
def Con.dur (c : Con) (size : Int) : Int := c.pass size + c.loss * (2 * c.rng + 1 + c.ticks 16)
theorem Con.ticks_bd {c : Con} {n : Int} (h : 1 <= c.rate) (hn : 0 <= n) : 1 <= c.ticks n /\ c.ticks n <= n + 8 := by
 unfold Con.ticks
 constructor
 ·exact (Int.le_ediv_iff_mul_le (by omega)).2 (by omega)
 ·have h1 : n + 8 + c.rate - 1 <= (n + 8) * c.rate := by
   have h2 : (n + 8 - 1) * 1 <= (n + 8 - 1) * c.rate := Int.mul_le_mul_of_nonneg_left h (by omega)
   have h3 : (n + 8 - 1) * c.rate = (n + 8) * c.rate - c.rate := by rw [Int.sub_mul, Int.one_mul]
   omega
  exact Int.le_of_lt_add_one (Int.ediv_lt_of_lt_mul (by omega) (by rw [Int.add_mul]; omega))
theorem Con.pass_bd {c : Con} {n : Int} (h : 1 <= c.rate) (hn : 1 <= n) (hn2 : n <= 65536) : 1 <= c.pass n /\ c.pass n <= 100000 := by
 unfold Con.pass
 have t := Con.ticks_bd (c := c) (n := 16) h (by omega)
 have q0 : 0 <= n / 16 := by omega
 have q1 : n / 16 <= 4096 := by omega
 have m := mul_le_of q0 q1 (by omega : 0 <= c.ticks 16) (by omega : c.ticks 16 <= 24)
 split
 ·have t2 := Con.ticks_bd (c := c) (n := n % 16) h (by omega)
  omega
 ·have q2 : 1 <= n / 16 := by omega
  have m2 : 1 * 1 <= n / 16 * c.ticks 16 := Int.mul_le_mul q2 t.1 (by omega) (by omega)
  omega
theorem Con.extra_bd {c : Con} (h1 : 1 <= c.rate) (h7 : 1 <= c.rng) (h8 : c.rng <= 1048576) (h9 : 0 <= c.loss) (h10 : c.loss <= 16) :
 0 <= c.loss * (2 * c.rng + 1 + c.ticks 16) /\ c.loss * (2 * c.rng + 1 + c.ticks 16) <= 40000000 := by
 have t := Con.ticks_bd (c := c) (n := 16) h1 (by omega)
 have m := mul_le_of h9 h10 (by omega : 0 <= 2 * c.rng + 1 + c.ticks 16) (by omega : 2 * c.rng + 1 + c.ticks 16 <= 2097200)
 omega
theorem Con.dur_bd {c : Con} {n : Int} (h : c.Ok) (hn : 1 <= n) (hn2 : n <= 65536) : 1 <= c.dur n /\ c.dur n <= 41000000 := by
 unfold Con.dur
 have p := Con.pass_bd (c := c) h.rate0 hn hn2
 have e := Con.extra_bd h.rate0 h.rng0 h.rng1 h.loss0 h.loss1
 omega
def Con.arg (c : Con) (size : Int) : Int := if c.check = 0 then (if inB size 1 65536 then 0 else 2) else 1
theorem Con.arg_ok {c : Con} {size : Int} : c.arg size = 0 ↔ c.Ok /\ 1 <= size /\ size <= 65536 := by
 unfold Con.arg
 rw [<- Con.check_iff]
 by_cases h : c.check = 0
 ·simp only [h, inB, if_true]
  by_cases h2 : 1 <= size /\ size <= 65536 <;> simp [h2]
 ·simp [h]
def Con.fitsB (c : Con) (b size : Int) : Bool := decide (c.st <= b /\ b <= c.en - c.dur size)
def Con.beg (c : Con) (t : Int) : Int := if t < c.st then c.st else t
def Con.durR (c : Con) (n : Int) : Int := if c.arg n = 0 then c.dur n else 0
def Con.fitsR (c : Con) (b n : Int) : Bool := decide (c.arg n = 0) && c.fitsB b n
def Con.overlapB (a b : Con) : Bool := decide (a.check = 0) && decide (b.check = 0) && decide (a.src = b.src) && decide (a.dst = b.dst) && decide (max a.st b.st < min a.en b.en)
end Go.Proofs.YtemkpimngbbpkaaGreat
namespace Go.Proofs.YtemkpimngbbpkaaGreat
set_option linter.unusedVariables false
set_option linter.unusedSimpArgs false
open Go.RowKit
def ECon : Elt Con := ⟨fun c => c.cells.toList, 7, fun _ => rfl, by omega, fun x u hu => by simp [Con.cells] at hu; rcases hu with h | h | h | h | h | h | h <;> subst h <;> rfl⟩
theorem Rd.con {w : World} {A : Option Addr} {l : List Con} (h : Rd ECon w A l) {k : Nat} (hk : k < l.length) : ∃ b o, A = some ⟨b, o, none⟩ /\ b < w.heap.size /\
 w.cell? ⟨b, o + k * 7, none⟩ = some (.int .i64 l[k].src) /\ w.cell? ⟨b, o + k * 7 + 1, none⟩ = some (.int .i64 l[k].dst) /\ w.cell? ⟨b, o + k * 7 + 2, none⟩ = some (.int .i64 l[k].st) /\ w.cell? ⟨b, o + k * 7 + 3, none⟩ = some (.int .i64 l[k].en) /\
 w.cell? ⟨b, o + k * 7 + 4, none⟩ = some (.int .i64 l[k].rate) /\ w.cell? ⟨b, o + k * 7 + 5, none⟩ = some (.int .i64 l[k].rng) /\ w.cell? ⟨b, o + k * 7 + 6, none⟩ = some (.int .i64 l[k].loss) := by
 obtain ⟨b, o, rfl, hb, hc⟩ := h.at hk
 exact ⟨b, o, rfl, hb, hc 0 _ rfl, hc 1 _ rfl, hc 2 _ rfl, hc 3 _ rfl, hc 4 _ rfl, hc 5 _ rfl, hc 6 _ rfl⟩
structure Pln where
 quo : List Int
 cons : List Con
def Pln.val (Aq : Option Addr) (cq : Nat) (Ac : Option Addr) (cc : Nat) (p : Pln) : Value := .agg #[.slice Aq p.quo.length cq, .slice Ac p.cons.length cc]
structure PlnRd (w : World) (Aq : Option Addr) (cq : Nat) (Ac : Option Addr) (cc : Nat) (p : Pln) : Prop where
 q : Rd EInt w Aq p.quo
 c : Rd ECon w Ac p.cons
 qm : p.quo.length <= 1000000
 cm : p.cons.length <= 1000000
 qc : p.quo.length <= cq
 cc : p.cons.length <= cc
theorem PlnRd.ext {w w' : World} {Aq : Option Addr} {cq : Nat} {Ac : Option Addr} {cc : Nat} {p : Pln} (h : PlnRd w Aq cq Ac cc p) (hb : Ext w w') : PlnRd w' Aq cq Ac cc p :=
 ⟨h.q.ext hb, h.c.ext hb, h.qm, h.cm, h.qc, h.cc⟩
def quoB (q : Int) : Bool := decide (q < 0) || decide (1073741824 < q)
def Pln.chkC (n : Int) : List Con -> List Con -> Int
 | _, [] => 0
 | pre, c :: l => if c.check = 0 then (if n <= c.src ∨ n <= c.dst then 2 else if pre.any (fun d => c.overlapB d) then 14 else chkC n (pre ++ [c]) l) else c.check
def Pln.lim (p : Pln) : Bool := decide (p.quo.length < 1) || (decide (16 < p.quo.length) || decide (64 < p.cons.length))
def Pln.chk (p : Pln) : Int := if p.lim then 4 else if p.quo.any quoB then 2 else Pln.chkC p.quo.length [] p.cons
theorem Pln.chkC_step {n : Int} {l : List Con} {k : Nat} {c : Con} (h : k < l.length) (hc : l[k] = c) :
 Pln.chkC n (l.take k) (l.drop k) = if c.check = 0 then (if n <= c.src ∨ n <= c.dst then 2 else if (l.take k).any (fun d => c.overlapB d) then 14 else Pln.chkC n (l.take (k + 1)) (l.drop (k + 1))) else c.check := by
 rw [List.drop_eq_getElem_cons h, hc, take_snoc h hc]
 rfl
theorem Pln.chkC_mem {n : Int} : ∀ {pre l : List Con}, Pln.chkC n pre l = 0 -> ∀ c ∈ l, c.Ok /\ c.src < n /\ c.dst < n
 | _, [], _, c, hc => by simp at hc
 | pre, x :: l, h, c, hc => by
   simp only [Pln.chkC] at h
   split at h
   ·rename_i h0
    split at h
    ·cases h
    ·rename_i h1
     split at h
     ·cases h
     ·rcases List.mem_cons.1 hc with rfl | hc
      ·exact ⟨(Con.check_iff c).1 h0, by omega, by omega⟩
      ·exact Pln.chkC_mem h c hc
   ·rename_i h0; exact absurd h h0
structure Pln.Ok (p : Pln) : Prop where
 n1 : 1 <= p.quo.length
 n16 : p.quo.length <= 16
 m64 : p.cons.length <= 64
 con : ∀ c ∈ p.cons, c.Ok /\ c.src < p.quo.length /\ c.dst < p.quo.length
theorem Pln.ok_of {p : Pln} (h : p.chk = 0) : p.Ok := by
 unfold Pln.chk at h
 split at h
 ·cases h
 ·rename_i h0
  simp only [Pln.lim, Bool.or_eq_true, decide_eq_true_eq] at h0
  split at h
  ·cases h
  ·exact ⟨by omega, by omega, by omega, Pln.chkC_mem h⟩
end Go.Proofs.YtemkpimngbbpkaaGreat
/- Requests and hops as plain data. -/
namespace Go.Proofs.YtemkpimngbbpkaaGreat
set_option linter.unusedVariables false
set_option linter.unusedSimpArgs false
open Go.RowKit
structure Req where
 src : Int
 dst : Int
 size : Int
 ready : Int
 dead : Int
 prio : Int
 cust : Bool
def Req.cells (q : Req) : Array Value := #[.int .i64 q.src, .int .i64 q.dst, .int .i64 q.size, .int .i64 q.ready, .int .i64 q.dead, .int .i64 q.prio, .bool q.cust]
def Req.val (q : Req) : Value := .agg #[.int .i64 q.src, .int .i64 q.dst, .int .i64 q.size, .int .i64 q.ready, .int .i64 q.dead, .int .i64 q.prio, .bool q.cust]
def Req.okB (q : Req) (n : Nat) : Bool :=
 decide (0 <= q.src /\ q.src < n /\ 0 <= q.dst /\ q.dst < n /\ q.src ≠ q.dst /\ 1 <= q.size /\ q.size <= 65536 /\ 0 <= q.ready /\ q.ready <= q.dead /\ q.dead <= 1099511627776 /\ 0 <= q.prio /\ q.prio <= 2)
structure Hp where
 con : Int
 beg : Int
 en : Int
 arr : Int
def Hp.cells (h : Hp) : List Value := [.int .i64 h.con, .int .i64 h.beg, .int .i64 h.en, .int .i64 h.arr]
def Hp.val (h : Hp) : Value := .agg #[.int .i64 h.con, .int .i64 h.beg, .int .i64 h.en, .int .i64 h.arr]
def EHp : Elt Hp := ⟨Hp.cells, 4, fun _ => rfl, by omega, fun x u hu => by simp [Hp.cells] at hu; rcases hu with h | h | h | h <;> subst h <;> rfl⟩
theorem Rd.hp {w : World} {A : Option Addr} {l : List Hp} (h : Rd EHp w A l) {k : Nat} (hk : k < l.length) : ∃ b o, A = some ⟨b, o, none⟩ /\ b < w.heap.size /\
 w.cell? ⟨b, o + k * 4, none⟩ = some (.int .i64 l[k].con) /\ w.cell? ⟨b, o + k * 4 + 1, none⟩ = some (.int .i64 l[k].beg) /\ w.cell? ⟨b, o + k * 4 + 2, none⟩ = some (.int .i64 l[k].en) /\ w.cell? ⟨b, o + k * 4 + 3, none⟩ = some (.int .i64 l[k].arr) := by
 obtain ⟨b, o, rfl, hb, hc⟩ := h.at hk
 exact ⟨b, o, rfl, hb, hc 0 _ rfl, hc 1 _ rfl, hc 2 _ rfl, hc 3 _ rfl⟩
def eqLB {α : Type} (f : α -> α -> Bool) : List α -> List α -> Bool
 | [], [] => true
 | x :: l, y :: m => f x y && eqLB f l m
 | _, _ => false
theorem eqLB_step {α : Type} {f : α -> α -> Bool} {l m : List α} {k : Nat} (h1 : k < l.length) (h2 : k < m.length) : eqLB f (l.drop k) (m.drop k) = (f l[k] m[k] && eqLB f (l.drop (k + 1)) (m.drop (k + 1))) := by
 rw [List.drop_eq_getElem_cons h1, List.drop_eq_getElem_cons h2]
 rfl
theorem eqLB_len {α : Type} {f : α -> α -> Bool} : ∀ {l m : List α}, l.length ≠ m.length -> eqLB f l m = false
 | [], [], h => absurd rfl h
 | [], _ :: _, _ => rfl
 | _ :: _, [], _ => rfl
 | x :: l, y :: m, h => by
   have := eqLB_len (f := f) (l := l) (m := m) (by simpa using h)
   simp [eqLB, this]
theorem eqLB_refl {α : Type} {f : α -> α -> Bool} (hf : ∀ x, f x x = true) : ∀ l : List α, eqLB f l l = true
 | [] => rfl
 | x :: l => by simp [eqLB, hf, eqLB_refl hf l]
end Go.Proofs.YtemkpimngbbpkaaGreat
/- Layer 25 (latest): the latest times as plain data, and the plain laws. -/
namespace Go.Proofs.YtemkpimngbbpkaaGreat
set_option linter.unusedVariables false
set_option linter.unusedSimpArgs false
open Go.RowKit
end Go.Proofs.YtemkpimngbbpkaaGreat
/- Layer 24 (journey): the earliest arrivals as plain data, and the plain laws. -/
namespace Go.Proofs.YtemkpimngbbpkaaGreat
set_option linter.unusedVariables false
set_option linter.unusedSimpArgs false
open Go.RowKit
def earr (c : Con) (t n : Int) : Int := if c.fitsB (c.beg t) n then c.beg t + c.dur n + c.rng else -1
section
variable {N : Nat} {cons : List Con} {n src t0 : Int}
def rank (m : List Int) (v : Int) : Nat := m.countP fun x => decide (0 <= x /\ x < v)
theorem rank_lt : ∀ {m : List Int} {u v : Int}, u ∈ m -> 0 <= u -> u < v -> rank m u < rank m v
 | [], _, _, h, _, _ => by simp at h
 | x :: m, u, v, h, h0, h1 => by
   have le : ∀ l : List Int, rank l u <= rank l v := fun l => by
    unfold rank
    apply List.countP_mono_left
    intro x _ hx
    simp only [decide_eq_true_eq] at hx ⊢
    omega
   unfold rank at le ⊢
   rw [List.countP_cons, List.countP_cons]
   rcases List.mem_cons.1 h with rfl | h
   ·have := le m
    rw [if_neg (by simp), if_pos (by simp; omega)]
    omega
   ·have := rank_lt h h0 h1
    unfold rank at this
    have hx : (if decide (0 <= x /\ x < u) = true then 1 else 0) <= (if decide (0 <= x /\ x < v) = true then 1 else 0) := by
     by_cases h2 : 0 <= x /\ x < u
     ·rw [if_pos (by simpa using h2), if_pos (by simp; omega)]; omega
     ·rw [if_neg (by simpa using h2)]; omega
    omega
theorem rank_bd {m : List Int} {v : Int} (h : v ∈ m) : rank m v < m.length := by
 unfold rank
 have h1 : m.countP (fun x => decide (0 <= x /\ x < v)) <= m.length := List.countP_le_length
 apply Nat.lt_of_le_of_ne h1
 intro e
 have := List.countP_eq_length.1 e v h
 simp at this
end
def gb (l : List Bool) (i : Int) : Bool := l.getD i.toNat false
section
variable {N : Nat} {cons : List Con} {n src t0 : Int} {m : List Int} {lf : List Bool} {cur x : Int} {D : Con -> Prop}
end
end Go.Proofs.YtemkpimngbbpkaaGreat
/- Layer 24 (journey): journeys as plain data. -/
namespace Go.Proofs.YtemkpimngbbpkaaGreat
set_option linter.unusedVariables false
set_option linter.unusedSimpArgs false
open Go.RowKit
def cand (f : List Int) (n node time : Int) (c : Con) : Bool := decide (c.dst = node /\ 0 <= gi f c.src /\ earr c (gi f c.src) n ≠ -1 /\ earr c (gi f c.src) n = time)
section
variable {N : Nat} {cons : List Con} {n src t0 : Int} {m : List Int}
end
section
variable {N : Nat} {cons : List Con} {n src t0 : Int}
end
def gc (cons : List Con) (i : Int) : Con := cons.getD i.toNat ⟨0, 0, 0, 0, 0, 0, 0⟩
theorem gc_get {cons : List Con} {i : Int} (h : i.toNat < cons.length) : gc cons i = cons[i.toNat] := by simp [gc, h]
def seenB (seen : List Int) (x : Int) : Bool := seen.any (fun y => y == x)
end Go.Proofs.YtemkpimngbbpkaaGreat
/- Layers 24 and 25 beside each other: earliest arrivals and latest times are each other's mirror. -/
namespace Go.Proofs.YtemkpimngbbpkaaGreat
set_option linter.unusedVariables false
set_option linter.unusedSimpArgs false
open Go.RowKit
section
variable {p : Pln} {src dst n : Int}
end
section
variable {p : Pln} {src dst n : Int}
end
end Go.Proofs.YtemkpimngbbpkaaGreat
/- Layer 26 (reach): profiles as plain data. -/
namespace Go.Proofs.YtemkpimngbbpkaaGreat
set_option linter.unusedVariables false
set_option linter.unusedSimpArgs false
open Go.RowKit
section
variable {p : Pln} {src dst n : Int}
end
end Go.Proofs.YtemkpimngbbpkaaGreat
/- Layer 24 (journey): the plain law of JourneyMonotone. -/
namespace Go.Proofs.YtemkpimngbbpkaaGreat
set_option linter.unusedVariables false
set_option linter.unusedSimpArgs false
open Go.RowKit
end Go.Proofs.YtemkpimngbbpkaaGreat
namespace Go.Proofs.YtemkpimngbbpkaaGreat
set_option linter.unusedVariables false
set_option linter.unusedSimpArgs false
open Go.RowKit
abbrev Bts := List UInt8
def strV (l : Bts) : Value := .string ⟨l.toArray⟩
def EB : Elt UInt8 := ⟨fun b => [.int .u8 (b.toNat : Int)], 1, fun _ => rfl, by omega, fun x u hu => by simp at hu; subst hu; rfl⟩
structure Q4 where
 a : UInt64
 b : UInt64
 c : UInt64
 d : UInt64
def rl (x k : UInt64) : UInt64 := (x <<< k) ||| (x >>> (64 - k))
def Q4.rnd (v : Q4) : Q4 :=
 let a := v.a + v.b
 let b := rl v.b 13 ^^^ a
 let a := rl a 32
 let c := v.c + v.d
 let d := rl v.d 16 ^^^ c
 let a := a + d
 let d := rl d 21 ^^^ a
 let c := c + b
 let b := rl b 17 ^^^ c
 let c := rl c 32
 ⟨a, b, c, d⟩
def wrdK (l : Bts) : Nat -> UInt64
 | 0 => 0
 | k + 1 => wrdK l k ||| ((l.getD k 0).toUInt64 <<< (UInt64.ofNat (8 * k)))
def wrd (l : Bts) : UInt64 := wrdK l 8
def wby (m : UInt64) : Bts := (List.range 8).map fun i => (m >>> (UInt64.ofNat (8 * i))).toUInt8
def lastB (s : Bts) : Bts := let r := s.drop (s.length / 8 * 8); (r ++ List.replicate (8 - r.length) 0).set 7 (UInt8.ofNat s.length)
def wordsL (s : Bts) : List UInt64 := (List.range (s.length / 8)).map (fun i => wrd (s.drop (8 * i))) ++ [wrd (lastB s)]
def Q4.word (v : Q4) (m : UInt64) : Q4 :=
 let u := (Q4.rnd (Q4.rnd { v with d := v.d ^^^ m }))
 { u with a := u.a ^^^ m }
def Q4.fin (v : Q4) : UInt64 :=
 let u := Q4.rnd (Q4.rnd (Q4.rnd (Q4.rnd { v with c := v.c ^^^ 255 })))
 u.a ^^^ u.b ^^^ u.c ^^^ u.d
def q0 (key : Bts) : Q4 := ⟨wrd key ^^^ 0x736f6d6570736575, wrd (key.drop 8) ^^^ 0x646f72616e646f6d, wrd key ^^^ 0x6c7967656e657261, wrd (key.drop 8) ^^^ 0x7465646279746573⟩
def tagB (key s : Bts) : Bts := wby ((wordsL s).foldl Q4.word (q0 key)).fin
def chainB (l : List Bts) : Bts := l.flatMap fun s => wby (UInt64.ofNat s.length) ++ s
def cst1 (r : UInt32) : UInt32 := if r % 2 = 1 then (r / 2) ^^^ 2197175160 else r / 2
def cst (r : UInt32) : UInt32 := cst1 (cst1 (cst1 (cst1 (cst1 (cst1 (cst1 (cst1 r)))))))
def crcU (r : UInt32) (s : Bts) : UInt32 := s.foldl (fun r b => (r >>> 8) ^^^ cst (r.toUInt8 ^^^ b).toUInt32) r
def crcS (s : Bts) : UInt32 := crcU 4294967295 s ^^^ 4294967295
def ctail (s : Bts) : Bts := let n := crcS s; [n.toUInt8, (n >>> 8).toUInt8, (n >>> 16).toUInt8, (n >>> 24).toUInt8]
def zig (n : Int) : Nat := if n < 0 then (-2 * n - 1).toNat else (2 * n).toNat
def ngrF (z : Nat) : Nat -> Nat -> Nat
 | 0, k => k
 | f + 1, k => if z / 128 ^ k < 128 then k else ngrF z f (k + 1)
def ngr (z : Nat) : Nat := ngrF z 9 0
def vintN (z : Nat) : Bts := (List.range (ngr z + 1)).map fun i => UInt8.ofNat (z / 128 ^ (ngr z - i) % 128 + if i = ngr z then 0 else 128)
def vint (n : Int) : Bts := vintN (zig n)
def vtext (s : Bts) : Bts := vint s.length ++ s
def sealB (s : Bts) : Bts := vtext s ++ ctail (vtext s)
structure Bl where
 kind : Int
 flags : Int
 data : Bts
def Bl.enc (b : Bl) : Bts := sealB (vint b.kind ++ vint b.flags ++ vtext b.data)
def encAll (l : List Bl) : Bts := vint l.length ++ l.flatMap Bl.enc
def EBl : Elt Bl := ⟨fun b => [.int .i64 b.kind, .int .i64 b.flags, strV b.data], 3, fun _ => rfl, by omega, fun x u hu => by simp at hu; rcases hu with h | h | h <;> subst h <;> rfl⟩
structure Bu where
 src : Int
 cr : Int
 seq : Int
 off : Int
 tot : Int
 dk : Int
 dn : Int
 life : Int
 prio : Int
 flags : Int
 blocks : List Bl
 pay : Bts
def Bu.nums (b : Bu) : List Int := [b.src, b.cr, b.seq, b.off, b.tot, b.dk, b.dn, b.life, b.prio, b.flags]
def Bu.enc (b : Bu) : Bts := sealB (vtext [77, 66, 49] ++ b.nums.flatMap vint ++ encAll b.blocks ++ vtext b.pay)
def exKey : Bts := [48, 49, 50, 51, 52, 53, 54, 55, 56, 57, 97, 98, 99, 100, 101, 102]
def exKey2 : Bts := [48, 49, 50, 51, 52, 53, 54, 55, 56, 57, 97, 98, 99, 100, 101, 103]
def exBu : Bu := ⟨1, 0, 0, 0, 0, 1, 2, 9, 0, 0, [], [104, 105]⟩
end Go.Proofs.YtemkpimngbbpkaaGreat
namespace Go.Proofs.YtemkpimngbbpkaaGreat
set_option linter.unusedVariables false
set_option linter.unusedSimpArgs false
open Go.RowKit
abbrev Sg := UInt8 × Bts
def sgAt (d : Bts) (i : Nat) : Sg := (d.getD (9 * i) 0, (d.drop (9 * i + 1)).take 8)
def sigs (d : Bts) : List Sg := (List.range (d.length / 9)).map (sgAt d)
def sflat (l : List Sg) : Bts := l.flatMap fun x => x.1 :: x.2
theorem sigs_len (d : Bts) : (sigs d).length = d.length / 9 := by simp [sigs]
theorem sgAt_len {d : Bts} {i : Nat} (h : i < d.length / 9) : (sgAt d i).2.length = 8 := by
 unfold sgAt
 simp only [List.length_take, List.length_drop]
 omega
theorem sigs_8 {d : Bts} : ∀ x ∈ sigs d, x.2.length = 8 := by
 intro x hx
 simp only [sigs, List.mem_map, List.mem_range] at hx
 obtain ⟨i, hi, rfl⟩ := hx
 exact sgAt_len hi
theorem sflat_len {l : List Sg} (h : ∀ x ∈ l, x.2.length = 8) : (sflat l).length = 9 * l.length := by
 induction l with
 | nil => rfl
 | cons x l ih =>
   have h1 := h x (by simp)
   have h2 := ih (fun y hy => h y (by simp [hy]))
   simp only [sflat, List.flatMap_cons, List.length_append, List.length_cons] at h2 ⊢
   omega
theorem sgAt_flat0 (x : Sg) (r : Bts) (h : x.2.length = 8) : sgAt (x.1 :: x.2 ++ r) 0 = x := by
 obtain ⟨a, t⟩ := x
 unfold sgAt
 simp only [Nat.mul_zero, Nat.zero_add, List.cons_append, List.getD_cons_zero, List.drop_succ_cons, List.drop_zero]
 rw [show (8 : Nat) = t.length from h.symm, List.take_left]
theorem sgAt_flatS (x : Sg) (r : Bts) (h : x.2.length = 8) (i : Nat) : sgAt (x.1 :: x.2 ++ r) (i + 1) = sgAt r i := by
 obtain ⟨a, t⟩ := x
 have h' : t.length = 8 := h
 unfold sgAt
 have e1 : 9 * (i + 1) = (9 * i) + (a :: t).length := by rw [List.length_cons, h']; omega
 rw [e1, show (9 * i) + (a :: t).length + 1 = (9 * i + 1) + (a :: t).length by omega]
 have e2 : ∀ k, List.drop (k + (a :: t).length) (a :: t ++ r) = List.drop k r := fun k => by
  rw [Nat.add_comm, List.drop_append, Nat.add_sub_cancel_left, List.drop_eq_nil_of_le (by omega), List.nil_append]
 refine Prod.ext ?_ ?_
 ·simp only [List.getD_eq_getElem?_getD]
  congr 1
  rw [List.getElem?_append_right (by omega), Nat.add_sub_cancel]
 ·show List.take 8 (List.drop _ _) = _
  rw [e2]
theorem sigs_flat {l : List Sg} (h : ∀ x ∈ l, x.2.length = 8) : sigs (sflat l) = l := by
 induction l with
 | nil => rfl
 | cons x l ih =>
   have h1 := h x (by simp)
   have h2 : ∀ y ∈ l, y.2.length = 8 := fun y hy => h y (by simp [hy])
   have ih := ih h2
   have hl := sflat_len h2
   have e : sflat (x :: l) = x.1 :: x.2 ++ sflat l := by simp [sflat]
   have hlen : (sflat (x :: l)).length / 9 = (sflat l).length / 9 + 1 := by
    rw [e, List.length_append, List.length_cons, h1]; omega
   unfold sigs at ih ⊢
   rw [hlen, List.range_succ_eq_map, List.map_cons, List.map_map, e, sgAt_flat0 x _ h1]
   congr 1
   refine Eq.trans ?_ ih
   refine List.map_congr_left (fun i _ => ?_)
   exact sgAt_flatS x _ h1 i
def okS : Int -> List Sg -> Bool
 | _, [] => true
 | last, x :: r => decide (last < (x.1.toNat : Int) /\ x.1.toNat < 16) && okS (x.1.toNat : Int) r
def damB (d : Bts) : Bool := !okS (-1) (sigs d) || decide (d.length = 0) || decide (d.length % 9 ≠ 0)
def findS (l : List Sg) (n : Nat) : Option Bts := (l.find? (fun x => x.1.toNat == n)).map (·.2)
def insS (m : Sg) : List Sg -> List Sg
 | [] => [m]
 | x :: r => if m.1.toNat < x.1.toNat then m :: x :: r else x :: insS m r
theorem insS_len (m : Sg) (l : List Sg) : (insS m l).length = l.length + 1 := by
 induction l with
 | nil => rfl
 | cons x r ih => unfold insS; split <;> simp [ih]
theorem insS_8 {m : Sg} {l : List Sg} (hm : m.2.length = 8) (h : ∀ x ∈ l, x.2.length = 8) : ∀ x ∈ insS m l, x.2.length = 8 := by
 induction l with
 | nil => intro x hx; simp [insS] at hx; subst hx; exact hm
 | cons y r ih =>
   intro x hx
   unfold insS at hx
   split at hx
   ·rcases List.mem_cons.1 hx with rfl | hx
    ·exact hm
    ·exact h x hx
   ·rcases List.mem_cons.1 hx with rfl | hx
    ·exact h _ (by simp)
    ·exact ih (fun z hz => h z (by simp [hz])) x hx
theorem insS_ok {m : Sg} (hm : m.1.toNat < 16) : ∀ {l : List Sg} {last : Int}, okS last l = true -> last < (m.1.toNat : Int) -> findS l m.1.toNat = none -> okS last (insS m l) = true
 | [], last, _, h1, _ => by simp [insS, okS, h1, hm]
 | x :: r, last, h, h1, h2 => by
   simp only [okS, Bool.and_eq_true, decide_eq_true_eq] at h
   unfold insS
   split
   ·rename_i h3
    simp only [okS, Bool.and_eq_true, decide_eq_true_eq]
    exact ⟨⟨h1, hm⟩, ⟨by omega, h.1.2⟩, h.2⟩
   ·rename_i h3
    have hne : ¬ x.1.toNat = m.1.toNat := by
     intro e
     simp [findS, e] at h2
    have h2' : findS r m.1.toNat = none := by
     unfold findS at h2 ⊢
     rw [List.find?_cons_of_neg (by simpa using hne)] at h2
     exact h2
    simp only [okS, Bool.and_eq_true, decide_eq_true_eq]
    exact ⟨h.1, insS_ok hm h.2 (by omega) h2'⟩
theorem insS_find {m : Sg} : ∀ {l : List Sg}, findS l m.1.toNat = none -> findS (insS m l) m.1.toNat = some m.2
 | [], _ => by simp [insS, findS]
 | x :: r, h2 => by
   unfold insS
   split
   ·simp [findS]
   ·have hne : ¬ x.1.toNat = m.1.toNat := by
     intro e
     simp [findS, e] at h2
    have h2' : findS r m.1.toNat = none := by
     unfold findS at h2 ⊢
     rw [List.find?_cons_of_neg (by simpa using hne)] at h2
     exact h2
    unfold findS
    rw [List.find?_cons_of_neg (by simpa using hne)]
    exact insS_find h2'
def putS (m : Sg) (s : List Sg × Bool) (x : Sg) : List Sg × Bool := if !s.2 && decide (m.1.toNat < x.1.toNat) then (s.1 ++ [m, x], true) else (s.1 ++ [x], s.2)
def putR (m : Sg) (l : List Sg) : List Sg × Bool := l.foldl (putS m) ([], false)
theorem putR_snoc (m : Sg) (l : List Sg) (x : Sg) : putR m (l ++ [x]) = putS m (putR m l) x := by simp [putR]
theorem putF_true (m : Sg) : ∀ (l : List Sg) (o : List Sg), l.foldl (putS m) (o, true) = (o ++ l, true)
 | [], o => by simp
 | x :: r, o => by
   rw [List.foldl_cons, show putS m (o, true) x = (o ++ [x], true) from rfl, putF_true m r]
   simp
theorem putF_ins (m : Sg) : ∀ (l : List Sg) (o : List Sg), (let s := l.foldl (putS m) (o, false); if s.2 then s.1 else s.1 ++ [m]) = o ++ insS m l
 | [], o => by simp [insS]
 | x :: r, o => by
   rw [List.foldl_cons]
   by_cases h : m.1.toNat < x.1.toNat
   ·rw [show putS m (o, false) x = (o ++ [m, x], true) by simp [putS, h], putF_true]
    simp [insS, h]
   ·rw [show putS m (o, false) x = (o ++ [x], false) by simp [putS, h], putF_ins m r]
    simp [insS, h]
theorem putR_ins (m : Sg) (l : List Sg) : (if (putR m l).2 then (putR m l).1 else (putR m l).1 ++ [m]) = insS m l := by
 have h := putF_ins m l []
 rw [List.nil_append] at h
 exact h
end Go.Proofs.YtemkpimngbbpkaaGreat
namespace Go.Proofs.YtemkpimngbbpkaaGreat
set_option linter.unusedVariables false
set_option linter.unusedSimpArgs false
open Go.RowKit
end Go.Proofs.YtemkpimngbbpkaaGreat
namespace Go.Proofs.YtemkpimngbbpkaaGreat
set_option linter.unusedVariables false
set_option linter.unusedSimpArgs false
open Go.RowKit
structure Chg where
 org : Int
 cnt : Int
 stp : Int
 kind : Int
 con : Con
def Chg.cells (x : Chg) : List Value := [.int .i64 x.org, .int .i64 x.cnt, .int .i64 x.stp, .int .i64 x.kind, .int .i64 x.con.src, .int .i64 x.con.dst, .int .i64 x.con.st, .int .i64 x.con.en, .int .i64 x.con.rate, .int .i64 x.con.rng, .int .i64 x.con.loss]
def EChg : Elt Chg := ⟨Chg.cells, 11, fun _ => rfl, by omega, fun x u hu => by simp [Chg.cells] at hu; rcases hu with h | h | h | h | h | h | h | h | h | h | h <;> subst h <;> rfl⟩
def inN (n i : Int) : Bool := decide (0 <= i /\ i < n)
def Con.isBare (c : Con) : Bool := decide (c.en = 0) && (decide (c.rate = 0) && (decide (c.rng = 0) && decide (c.loss = 0)))
def Chg.cok (n : Int) (x : Chg) : Bool :=
 inN n x.con.src && (inN n x.con.dst && (if x.kind = 1 then decide (x.con.check = 0) else if x.kind = 2 then decide (x.con.src ≠ x.con.dst) && (decide (0 <= x.con.st /\ x.con.st <= 1099511627776) && x.con.isBare) else false))
def Chg.ok (n : Int) (x : Chg) : Bool := decide (0 <= x.org /\ x.org < n /\ 1 <= x.cnt /\ 1 <= x.stp /\ x.stp <= 1099511627776) && x.cok n
def folE (b : Option Chg) (x : Chg) : Int :=
 match b with
 | none => if x.cnt = 1 then 0 else 25
 | some y => if x.org < y.org ∨ (y.org = x.org /\ x.cnt <= y.cnt) then 9 else if y.org = x.org then (if x.cnt ≠ y.cnt + 1 then 25 else if x.stp <= y.stp then 9 else 0) else (if x.cnt ≠ 1 then 25 else 0)
def chkF (n : Int) : Option Chg -> List Chg -> Int
 | _, [] => 0
 | b, x :: r => if x.ok n = false then 2 else if folE b x ≠ 0 then folE b x else chkF n (some x) r
def hChk (n : Int) (l : List Chg) : Int := if n < 1 ∨ 16 < n then 2 else if 1000 < l.length then 4 else chkF n none l
def conEq (a b : Con) : Bool := decide (a.src = b.src) && (decide (a.dst = b.dst) && (decide (a.st = b.st) && (decide (a.en = b.en) && (decide (a.rate = b.rate) && (decide (a.rng = b.rng) && decide (a.loss = b.loss))))))
theorem conEq_iff {a b : Con} : conEq a b = true ↔ a = b := by
 cases a; cases b
 simp [conEq]
def chgEq (x y : Chg) : Bool := decide (x.org = y.org) && (decide (x.cnt = y.cnt) && (decide (x.stp = y.stp) && (decide (x.kind = y.kind) && conEq x.con y.con)))
theorem chgEq_iff {x y : Chg} : chgEq x y = true ↔ x = y := by
 obtain ⟨a, b, c, d, e⟩ := x
 obtain ⟨a', b', c', d', e'⟩ := y
 simp [chgEq, conEq_iff]
theorem chkF_at {n : Int} : ∀ {l : List Chg} {b : Option Chg}, chkF n b l = 0 -> ∀ (i : Nat) (h : i < l.length), l[i].ok n = true /\ folE (if i = 0 then b else l[i - 1]?) l[i] = 0
 | [], _, _, i, h => by simp at h
 | x :: r, b, h0, i, h => by
   unfold chkF at h0
   split at h0
   ·omega
   ·rename_i a1
    split at h0
    ·rename_i a2; exact absurd h0 a2
    ·rename_i a2
     have a2 : folE b x = 0 := by simpa using a2
     cases i with
     | zero => exact ⟨by simpa using a1, by simpa using a2⟩
     | succ i =>
       have ih := chkF_at h0 i (by simpa using h)
       refine ⟨ih.1, ?_⟩
       rw [if_neg (by omega)]
       have e2 := ih.2
       cases i with
       | zero => simpa using e2
       | succ i => simpa using e2
end Go.Proofs.YtemkpimngbbpkaaGreat
namespace Go.Proofs.YtemkpimngbbpkaaGreat
set_option linter.unusedVariables false
set_option linter.unusedSimpArgs false
open Go.RowKit
def nxt (x y : Chg) : Chg := ⟨x.org, if y.org = x.org then max x.cnt (y.cnt + 1) else x.cnt, max x.stp (y.stp + 1), x.kind, x.con⟩
def nextC (l : List Chg) (o kind : Int) (c : Con) : Chg := l.foldl nxt ⟨o, 1, 1, kind, c⟩
def keepC (l : List Con) : List Con := l.foldl (fun o c => if o.any (fun d => d.overlapB c) then o else o ++ [c]) []
theorem keepF_spec : ∀ (l o : List Con), o.Pairwise (fun a b => a.overlapB b = false) -> (l.foldl (fun o c => if o.any (fun d => d.overlapB c) then o else o ++ [c]) o).Pairwise (fun a b => a.overlapB b = false) /\ (∀ c ∈ l.foldl (fun o c => if o.any (fun d => d.overlapB c) then o else o ++ [c]) o, c ∈ o ∨ c ∈ l) /\ (l.foldl (fun o c => if o.any (fun d => d.overlapB c) then o else o ++ [c]) o).length <= o.length + l.length
 | [], o, h => ⟨h, fun c hc => .inl hc, by simp⟩
 | x :: l, o, h => by
   rw [List.foldl_cons]
   by_cases e : o.any (fun d => d.overlapB x) = true
   ·rw [if_pos e]
    obtain ⟨h1, h2, h3⟩ := keepF_spec l o h
    exact ⟨h1, fun c hc => (h2 c hc).imp id (fun h => by simp [h]), by rw [List.length_cons]; omega⟩
   ·rw [if_neg e]
    have e' : ∀ d ∈ o, d.overlapB x = false := by
     rw [Bool.not_eq_true, List.any_eq_false] at e
     intro d hd
     have := e d hd
     simpa using this
    obtain ⟨h1, h2, h3⟩ := keepF_spec l (o ++ [x]) (List.pairwise_append.2 ⟨h, by simp, fun a ha b hb => by rw [List.mem_singleton.1 hb]; exact e' a ha⟩)
    refine ⟨h1, fun c hc => ?_, by rw [List.length_append, List.length_singleton] at h3; rw [List.length_cons]; omega⟩
    rcases h2 c hc with h | h
    ·rcases List.mem_append.1 h with h | h
     ·exact .inl h
     ·exact .inr (by rw [List.mem_singleton.1 h]; simp)
    ·exact .inr (by simp [h])
end Go.Proofs.YtemkpimngbbpkaaGreat
namespace Go.Proofs.YtemkpimngbbpkaaGreat
set_option linter.unusedVariables false
set_option linter.unusedSimpArgs false
open Go.RowKit Go.Lib
def byC (b : UInt8) : Value := .int .u8 (b.toNat : Int)
theorem eb_all (l : Bts) : EB.all l = l.map byC := by
 induction l with
 | nil => rfl
 | cons x l ih => simp only [Elt.all, List.flatMap_cons, List.map_cons] at ih ⊢; rw [ih]; rfl
theorem strCells_mk (l : Bts) : strCells ⟨l.toArray⟩ = l.map byC := by simp [strCells, byC]
theorem bsize_mk (l : Bts) : (⟨l.toArray⟩ : ByteArray).size = l.length := by simp [ByteArray.size]
def OwnsB (w : World) (base : Nat) (e : TypeId) (v : Value) (l : Bts) : Prop :=
 (v = .slice none 0 0 /\ l = []) ∨
 ∃ g cap cur fz, v = .slice (some ⟨g, 0, none⟩) l.length cap /\ base <= g /\ w.heap[g]? = some (.cells cur e fz) /\ (fz = (0, 0) ∨ fz = (cur.size, cur.size + 1)) /\ l.length <= cap /\ cap <= maxLen /\ cur.size = cap /\ cur.toList.take l.length = l.map byC
theorem OwnsB.of {w : World} {base : Nat} {e : TypeId} {v : Value} {l : Bts} (h : Owns EB w base e v l) : OwnsB w base e v l := by
 have h1 := h
 unfold Owns at h1
 rw [eb_all] at h1
 rcases h1.2 with ⟨rfl, h2⟩ | ⟨g, cap, cur, rfl, h2, h3, h4, h5, h6, h7⟩
 ·exact .inl ⟨rfl, List.eq_nil_of_length_eq_zero h2⟩
 ·have e1 : EB.size = 1 := rfl
  rw [e1, Nat.mul_one] at h6 h7
  exact .inr ⟨g, cap, cur, (0, 0), rfl, h2, h3, .inl rfl, h4, h5, h6, h7⟩
theorem OwnsB.ext {w w' : World} {base : Nat} {e : TypeId} {v : Value} {l : Bts} (h : OwnsB w base e v l) (hb : Ext w w') : OwnsB w' base e v l := by
 rcases h with h | ⟨g, cap, cur, fz, rfl, h2, h3, h4⟩
 ·exact .inl h
 ·exact .inr ⟨g, cap, cur, fz, rfl, h2, (hb.block g (Array.getElem?_eq_some_iff.1 h3).1).trans h3, h4⟩
theorem OwnsB.block {w : World} {base : Nat} {e : TypeId} {v : Value} {l : Bts} (h : OwnsB w base e v l) {g : Nat} (hg : v.ownBlock = some g) : base <= g /\ g < w.heap.size := by
 rcases h with ⟨rfl, _⟩ | ⟨g', cap, cur, fz, rfl, h2, h3, _⟩
 ·simp [Value.ownBlock] at hg
 ·simp [Value.ownBlock] at hg
  subst hg
  exact ⟨h2, (Array.getElem?_eq_some_iff.1 h3).1⟩
theorem OwnsB.form {w : World} {base : Nat} {e : TypeId} {v : Value} {l : Bts} (h : OwnsB w base e v l) : ∃ A c, v = .slice A l.length c /\ Rd EB w A l := by
 rcases h with ⟨rfl, rfl⟩ | ⟨g, cap, cur, fz, rfl, h2, h3, h4, h5, h6, h7, h8⟩
 ·exact ⟨none, 0, rfl, Rd.nil⟩
 ·refine ⟨_, _, rfl, ?_⟩
  unfold Rd
  rw [eb_all]
  refine ⟨by simp [EB], fun _ => ⟨_, rfl, (Array.getElem?_eq_some_iff.1 h3).1, fun j u hu => ?_⟩⟩
  rw [Addr.add_lit, Nat.zero_add, cell_of_row w g j cur e fz h3]
  rw [<- h8, List.getElem?_take] at hu
  split at hu
  ·simpa using hu
  ·cases hu
theorem run_storeCells_atB (P : Program) (g o : Nat) (t : TypeId) (fz : Nat × Nat) : ∀ (vs : List Value) (i : Nat) (cur : Array Value) (w : World), w.heap[g]? = some (.cells cur t fz) -> (fz = (0, 0) ∨ fz = (cur.size, cur.size + 1)) -> o + i + vs.length <= cur.size -> (∀ v ∈ vs, v.oneCell' = true) ->
 (storeCells ⟨g, o, none⟩ vs i).run P w = .ok () (w.setRow g (cur.toList.take (o + i) ++ vs ++ cur.toList.drop (o + i + vs.length)).toArray)
 | [], i, cur, w, hg, _, _, _ => by
   simp only [storeCells, List.append_nil, List.length_nil, Nat.add_zero, List.take_append_drop, Array.toArray_toList]
   rw [setRow_self w g cur t fz hg]
   rfl
 | v :: rest, i, cur, w, hg, hfz, hl, h1 => by
   have hi : o + i < cur.size := by simp at hl; omega
   have hadd : (⟨g, o, none⟩ : Addr).add i = ⟨g, o + i, none⟩ := by unfold Addr.add; split <;> simp_all
   have hcell : w.cell? ⟨g, o + i, none⟩ = some cur[o + i] := by simp [World.cell?, hg, hi]
   have hfro : w.frozen? ⟨g, o + i, none⟩ = false := by
    rcases hfz with rfl | rfl <;> simp [World.frozen?, hg] <;> omega
   have hst : (store ((⟨g, o, none⟩ : Addr).add i) v).run P w = .ok () (w.setRow g (cur.setIfInBounds (o + i) v)) := by
    rw [hadd, run_store P w _ v _ (h1 v (by simp)), hcell]
    simp [hfro, setCell_eq_setRow w g (o + i) cur t fz v hg]
   have ih := run_storeCells_atB P g o t fz rest (i + 1) (cur.setIfInBounds (o + i) v) (w.setRow g (cur.setIfInBounds (o + i) v)) (setRow_heap w g cur _ t _ hg) (by simpa using hfz) (by simp at hl ⊢; omega) (fun x hx => h1 x (by simp [hx]))
   simp only [storeCells, Sem.run_bind, hst, Result.andThen_ok, ih, setRow_setRow]
   congr 3
   have e := list_seg_step cur.toList (o + i) v rest (by simp at hl ⊢; omega)
   simpa [Array.toList_setIfInBounds, Nat.add_assoc] using e
section
variable {P : Program} (w : World)
theorem run_append_room_stringB (t u ty e : TypeId) (i : TypeInfo) (ht : P.underlying t = some (.slice e)) (hu : P.underlying u = some .string) (hi : P.info? e = some i) (hs1 : i.size = 1)
 (g sLen sCap : Nat) (cur : Array Value) (fz : Nat × Nat) (hg : w.heap[g]? = some (.cells cur e fz)) (hfz : fz = (0, 0) ∨ fz = (cur.size, cur.size + 1)) (s : ByteArray)
 (hroom : sLen + s.size <= sCap) (hfit : sLen + s.size <= cur.size) :
 (Builtin.append_ #[t, u] ty #[.slice (some ⟨g, 0, none⟩) sLen sCap, .string s]).run P w =
  .ok (.slice (some ⟨g, 0, none⟩) (sLen + s.size) sCap) (w.setRow g (cur.toList.take sLen ++ strCells s ++ cur.toList.drop (sLen + s.size)).toArray) := by
 have hf := run_firstCells_string (P := P) w 1 s
 have hst := run_storeCells_atB P g sLen e fz (strCells s) 0 cur w hg hfz (by simpa [strCells_length] using hfit) (strCells_oneCell s)
 simp only [Nat.add_zero, strCells_length] at hst
 simp [Builtin.append_, run_underlying ht, run_underlying hu, sizeOf, typeInfo, hi, hs1, Builtin.lenOf, hroom, hf, Addr.add_lit, hst]
theorem run_append_stringB (base : Nat) (t u ty e : TypeId) (i : TypeInfo) (ht : P.underlying t = some (.slice e)) (hu : P.underlying u = some .string) (hi : P.info? e = some i) (hz : i.zero = some (.int .u8 0))
 (hsize : i.size = 1) (hby : i.bytes = 1) (v : Value) (l : Bts) (hown : OwnsB w base e v l) (s : Bts)
 (hn : l.length + s.length <= 140737488355328) (hbase : base <= w.heap.size) :
 ∃ v' w', (Builtin.append_ #[t, u] ty #[v, strV s]).run P w = .ok v' w' /\ OwnsB w' base e v' (l ++ s) /\ w.grownBy w' v.ownBlock := by
 have h63 : l.length + s.length <= maxLen := by simp only [maxLen]; omega
 have hss : (⟨s.toArray⟩ : ByteArray).size = s.length := bsize_mk s
 have hsc := strCells_mk s
 unfold strV
 rcases hown with ⟨rfl, rfl⟩ | ⟨g, cap, cur, fz, rfl, hbg, hg, hfz, hnc, hcm, hcs, htake⟩
 ·obtain ⟨v', w', h1, h2, h3, h4⟩ := run_append_own_string (P := P) w base t u ty e i ht hu hi hz hsize hby (.slice none 0 0) 0 [] (World.ownsRow_nil w base e 1) ⟨s.toArray⟩ (by rw [hss]; simpa using h63) (by rw [hss]; simpa using hn) hbase
  refine ⟨v', w', h1, OwnsB.of ?_, h3⟩
  unfold Owns
  rw [eb_all, List.nil_append, <- hsc]
  rw [hss] at h2
  simpa [EB] using h2
 ·by_cases hroom : l.length + s.length <= cap
  ·have hr := run_append_room_stringB (P := P) w t u ty e i ht hu hi hsize g l.length cap cur fz hg hfz ⟨s.toArray⟩ (by rw [hss]; exact hroom) (by rw [hss]; omega)
   rw [hss, hsc] at hr
   have hlen : (List.take l.length cur.toList ++ List.map byC s ++ List.drop (l.length + s.length) cur.toList).length = cur.size := by
    simp only [List.length_append, List.length_take, List.length_drop, Array.length_toList, List.length_map]
    omega
   refine ⟨_, _, hr, .inr ⟨g, cap, _, fz, by rw [List.length_append], hbg, setRow_heap w g cur _ e _ hg, ?_, by rw [List.length_append]; exact hroom, hcm, by rw [List.size_toArray, hlen]; exact hcs, ?_⟩, ⟨rfl, rfl, rfl, by simp, fun k _ hk => setRow_other w g k _ (fun e => hk (by simp [Value.ownBlock, e]))⟩⟩
   ·rw [List.size_toArray, hlen]; exact hfz
   ·rw [htake, List.map_append]
    have : (List.map byC l ++ List.map byC s).length = (l ++ s).length := by simp
    rw [<- this]
    exact List.take_left
  ·have holds : ∀ j u, (l.map byC)[j]? = some u -> w.cell? ((⟨g, 0, none⟩ : Addr).add j) = some u := by
    intro j u hu
    rw [Addr.add_lit, Nat.zero_add, cell_of_row w g j cur e fz hg]
    rw [<- htake, List.getElem?_take] at hu
    split at hu
    ·simpa using hu
    ·cases hu
   have hr := run_append_grow_string (P := P) w t u ty e i (.int .u8 0) ht hu hi hz ⟨g, 0, none⟩ l.length cap (l.map byC) (by rw [hsize]; simp) holds ⟨s.toArray⟩ (by rw [hss]; omega) (by rw [hss]; simp only [maxLen] at h63; omega) (by rw [hby, hss]; exact growslice_fits (by omega) (by omega))
   have hge := grownCap_ge w (l.length + s.length) cap e
   have hcm2 : grownCap w (l.length + s.length) cap e <= maxLen := grownCap_le_maxLen w (l.length + s.length) cap e h63
   rw [hss, hsc] at hr
   refine ⟨_, _, hr, .inr ⟨w.heap.size, _, _, (0, 0), by rw [List.length_append], hbase, heap_alloc_new w.drew _, .inl rfl, by rw [List.length_append]; exact hge, hcm2, ?_, ?_⟩, ⟨rfl, rfl, rfl, by simp, fun k hk _ => heap_alloc_old w.drew _ hk⟩⟩
   ·have hz1 : (Value.int IntKind.u8 0).cells.size = 1 := rfl
    simp only [Array.size_append, List.size_toArray, size_zeroCells, hz1, List.length_map]
    omega
   ·simp only [Array.toList_append, List.append_assoc]
    rw [<- List.append_assoc, <- List.map_append]
    have : (List.map byC (l ++ s)).length = (l ++ s).length := by simp
    rw [<- this]
    exact List.take_left
end
theorem conv_bytes {P : Program} (w : World) (src dst e : TypeId) (s : Bts) {u : TypeDesc} (hs : P.underlying src = some u) (hd : P.underlying dst = some (.slice e)) (he : P.underlying e = some (.int .u8)) (hn : s.length <= 140737488355328) :
 ∃ cap w', (convert src dst (strV s)).run P w = .ok (.slice (some ⟨w.heap.size, 0, none⟩) s.length cap) w' /\ OwnsB w' w.heap.size e (.slice (some ⟨w.heap.size, 0, none⟩) s.length cap) s /\ Ext w w' /\ w'.heap.size = w.heap.size + 1 := by
 have h1 := Go.Lib.run_convert_string_bytes (P := P) w src dst e ⟨s.toArray⟩ hs hd he
 have hz : (⟨s.toArray⟩ : ByteArray).size = s.length := bsize_mk s
 rw [hz] at h1
 have h63 : s.length <= maxLen := by simp only [maxLen]; omega
 have hge := grownCap_ge w s.length 0 e
 have hcm := grownCap_le_maxLen w s.length 0 e h63
 refine ⟨_, _, h1, .inr ⟨w.heap.size, _, _, _, rfl, Nat.le_refl _, bytesWorld_at_new w e ⟨s.toArray⟩, .inr rfl, hge, hcm, ?_, ?_⟩, ⟨?_, ?_, ?_, ?_, fun k hk => bytesWorld_at_old w e _ k hk⟩, bytesWorld_size w e _⟩
 ·simp only [bytesCells, hz, Array.size_append, Array.size_map, Array.size_replicate, List.size_toArray]
  omega
 ·simp only [bytesCells, hz, Array.toList_append, Array.toList_map]
  have e2 : (List.map (fun b : UInt8 => Value.int .u8 (b.toNat : Int)) s) = List.map byC s := rfl
  rw [e2]
  have : (List.map byC s).length = s.length := by simp
  rw [<- this]
  exact List.take_left
 ·rfl
 ·rfl
 ·rfl
 ·rw [bytesWorld_size]; omega
theorem conv_str {P : Program} (w : World) (src dst e : TypeId) (A : Option Addr) (c : Nat) (l : Bts) (hs : P.underlying src = some (.slice e)) (he : P.underlying e = some (.int .u8)) (hd : P.underlying dst = some .string) (hR : Rd EB w A l) :
 (convert src dst (.slice A l.length c)).run P w = .ok (strV l) w := by
 by_cases h0 : l = []
 ·subst h0
  cases A with
  | none => rw [run_convert_bytes_string w src dst e none _ c hs he hd]; simp [Conv.bytesToString, strV]; rfl
  | some a => exact run_convert_bytes_back w src dst e a c [] hs he hd (fun j hj => by simp at hj)
 ·have hp : 0 < l.length := by cases l with
   | nil => exact absurd rfl h0
   | cons x l => simp
  obtain ⟨b, o, rfl, hb, hc⟩ := hR.at hp
  refine run_convert_bytes_back w src dst e _ c l hs he hd (fun j hj => ?_)
  obtain ⟨b', o', e1, _, hc'⟩ := hR.at hj
  injection e1 with e1
  injection e1 with e2 e3
  subst e2 e3
  have := hc' 0 _ rfl
  have e9 : EB.size = 1 := rfl
  rw [e9, Nat.mul_one, Nat.add_zero] at this
  rw [Addr.add_lit]
  exact this
end Go.Proofs.YtemkpimngbbpkaaGreat
namespace Go.Proofs.YtemkpimngbbpkaaGreat
set_option linter.unusedVariables false
set_option linter.unusedSimpArgs false
open Go.RowKit
end Go.Proofs.YtemkpimngbbpkaaGreat
namespace Go.Proofs.YtemkpimngbbpkaaGreat
set_option linter.unusedVariables false
set_option linter.unusedSimpArgs false
open Go.RowKit
set_option maxHeartbeats 2000000 in
theorem equalInt_any (A B : Option Addr) (c d : Nat) (l m : List Int) (w : World) (hA : Rd EInt w A l) (hB : Rd EInt w B m) (hmax : l.length <= 1000000) (hmax2 : m.length <= 1000000) :
 Calls Tryz.prog 35 #[.slice A l.length c, .slice B m.length d] w fun e w' => e = .returned (.bool (eqLB (fun x y : Int => x == y) l m)) /\ Ext w w' := by
 by_cases hlm : l.length = m.length
 ·have h1 : l.length <= m.length := by omega
  have h2 : m.length <= l.length := by omega
  have hnn : ((l.length : Int) != (m.length : Int)) = false := by simp; omega
  have hnn2 : (l.length != m.length) = false := by simp; omega
  clear hlm
  go_enter Tryz.func35, Tryz.ntmps35
  go_wp2
  go_loopg [13] l.length (fun q i wr => ∃ k : Nat, k + q = l.length /\ i = .int .i64 k /\ eqLB (fun x y : Int => x == y) l m = eqLB (fun x y : Int => x == y) (l.drop k) (m.drop k) /\ Ext w wr)
  case atStart => exact ⟨0, by omega, rfl, rfl, Ext.refl _⟩
  case round =>
   obtain ⟨k, hk, rfl, hx, hN⟩ := hrel
   have Hx := Lib.hid hx
   clear hx
   by_cases hlt : k < l.length
   ·have hlt2 : k < m.length := by omega
    obtain ⟨b, o, rfl, hb, c0⟩ := (hA.ext hN).int hlt
    obtain ⟨b2, o2, rfl, hb2, d0⟩ := (hB.ext hN).int hlt2
    have hst := Lib.hid (eqLB_step (f := fun x y : Int => x == y) hlt hlt2)
    generalize l[k] = x at *
    generalize m[k] = y at *
    have hN0 := hN
    clear hN
    have hN := Near.refl wr
    by_cases hxy : x = y
    ·subst hxy
     go_wp2
     have hq := quiet_near hN
     refine wp_region_quiet_below (by kernel_rfl) (by kernel_rfl) ?_
     repeat (first | go_big_quiet_skip | (go_big_quiet_want; go_big_quiet_op; first | go_big_quiet_on | (apply Exists.intro; refine ⟨fun _ => ?_, ?_⟩; (focus (first | fail)); go_big_quiet_on)))
     refine wpQuiet_nil ?_
     intro w1 hw1
     clear hq
     replace hw1 := quiet_ext hw1
     replace hN := hN.step hw1
     have hC := hN.2
     go_wp2
     go_roundg (gk - 1)
     case measure => omega
     case rel => exact ⟨k + 1, by omega, by go_num, by rw [Hx.out, hst.out]; simp, hN0.trans hN.1⟩
    ·have hd : (x != y) = true := by simpa using hxy
     have Hxy := Lib.hid hxy
     clear hxy
     go_wp2
     have hq := quiet_near hN
     refine wp_region_quiet_below (by kernel_rfl) (by kernel_rfl) ?_
     repeat (first | go_big_quiet_skip | (go_big_quiet_want; go_big_quiet_op; first | go_big_quiet_on | (apply Exists.intro; refine ⟨fun _ => ?_, ?_⟩; (focus (first | fail)); go_big_quiet_on)))
     refine wpQuiet_nil ?_
     intro w1 hw1
     clear hq
     replace hw1 := quiet_ext hw1
     replace hN := hN.step hw1
     have hC := hN.2
     go_wp2
     go_ret
     exact ⟨ret_bool (by rw [Hx.out, hst.out]; simp [Hxy.out]), hN0.trans hN.1⟩
   ·go_wp2
    go_ret
    refine ⟨ret_bool ?_, hN⟩
    rw [Hx.out, List.drop_eq_nil_of_le (by omega), List.drop_eq_nil_of_le (by omega)]
    rfl
 ·have hnn : ((l.length : Int) != (m.length : Int)) = true := by simp; omega
  have hnn2 : (l.length != m.length) = true := by simp; omega
  have he := Lib.hid (eqLB_len (f := fun x y : Int => x == y) hlm)
  clear hlm
  go_enter Tryz.func35, Tryz.ntmps35
  go_wp2
  go_ret
  exact ⟨ret_bool he.out.symm, Ext.refl _⟩
theorem equalInt_ex (A B : Option Addr) (c d : Nat) (l : List Int) (w : World) (hA : Rd EInt w A l) (hB : Rd EInt w B l) (hmax : l.length <= 1000000) :
 Calls Tryz.prog 35 #[.slice A l.length c, .slice B l.length d] w fun e w' => e = .returned (.bool true) /\ Ext w w' := by
 have h := equalInt_any A B c d l l w hA hB hmax hmax
 rw [eqLB_refl (fun x => by simp)] at h
 exact h
end Go.Proofs.YtemkpimngbbpkaaGreat
