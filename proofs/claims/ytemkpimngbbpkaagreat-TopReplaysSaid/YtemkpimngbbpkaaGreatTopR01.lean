/- Words for memory and small lemmas, of no program in particular. · Lists in memory: a slice that reads as a list, a slice of the call's own, append, stores, clear, lists of numbers. · From a walk to the given statement; what comes in, as plain data. · Layer 21 (contact): what the program's functions and the reference's compute, as plain functions of seven integers, and their bounds. · Plans, requests, earliest arrivals, latest times, profiles: plain data and their laws. · Security: plain functions on bytes. · Security: signatures, plain functions. · slices.Reverse of a list of hops of the call's own. · Update: histories of changes, plain functions and laws. · Update: one more change; the plan of a history. · Rows of bytes of the call's own, with or without the mark of a conversion. · Replay windows: plain functions and the law of a window. -/
import Derived.WalkKit
import Derived.WalkSpells
import Derived.WalkLawsBesides
import Derived.BigQuiet
import Derived.Deep.QuietTactic
import Derived.Lib.Hide
import Derived.Deep.RegionHeld3
import Derived.Deep.DeepCutAuto
import Derived.RangeFuncOwn
import Derived.IntWalk
import Derived.Handy
import Derived.Lib.QuietBelow
import Derived.Below
import Derived.Laws.OwnMore
import Derived.Deep.AppendLies
import Derived.Deep.Draws
import Derived.Maps.AppendAt
import Derived.RegionTactic
import Derived.OwnWalk
import Derived.ChangeKeysEq
import Derived.Laws.IdiomCopy
import Derived.Laws.MakeOwn
import Derived.ProofKit
import Derived.OpenShut
import Derived.Deep.Fields
import Derived.Deep.Slices
import Derived.ChangeSame
import Derived.Carry
import Derived.Test.YtemkpimngbbpkaaGreatRows
import Derived.BigRegion
import Derived.Lib.FrozenHead
import Derived.Lib.ConvBytes
import Derived.Laws.BytesString
namespace Go.Proofs.YtemkpimngbbpkaaGreat
set_option linter.unusedVariables false
set_option linter.unusedSimpArgs false
set_option linter.unusedVariables false
open Go.RowKit

/-- w' is w with new blocks: nothing that lay there has changed. -/
def Ext (w w' : World) : Prop := Below w.heap.size w w'
theorem Ext.refl (w : World) : Ext w w := Below.refl _ _
theorem Ext.size {a b : World} (h : Ext a b) : a.heap.size ≤ b.heap.size := Below.size h
theorem Ext.trans {a b c : World} (h : Ext a b) (k : Ext b c) : Ext a c := Below.trans h (Below.mono k (Below.size h))
theorem Ext.drew {a b : World} (h : Ext a b) : Ext a b.drew := Below.drew h
theorem Ext.drewN {a b : World} (h : Ext a b) (n : Nat) : Ext a (b.drewN n) := ⟨h.os, h.tape, h.output, h.size, h.block⟩
theorem Ext.alloc {a b : World} (h : Ext a b) (o : Obj) : Ext a (b.alloc o) := Below.alloc h h.size o
theorem Ext.setCell {a b : World} (h : Ext a b) {p : Addr} (hp : a.heap.size ≤ p.block) (v : Value) : Ext a (b.setCell p v) := Below.setCell h hp v
theorem Ext.cell {a b : World} (h : Ext a b) {p : Addr} (hp : p.block < a.heap.size) : b.cell? p = a.cell? p := Below.cell h hp
theorem Ext.frozen {a b : World} (h : Ext a b) {p : Addr} (hp : p.block < a.heap.size) : b.frozen? p = a.frozen? p := Below.frozen h hp
theorem Ext.keeps {a b : World} (h : Ext a b) : KeepsOthers a b :=
  ⟨h.size, fun k _ hk _ => (Below.block h k (Array.getElem?_eq_some_iff.1 hk).1).trans hk⟩
theorem Ext.below {a b : World} (h : Ext a b) {B : Nat} (hB : B ≤ a.heap.size) : Below B a b := Below.mono h hB

theorem cell_lt {w : World} {p : Addr} {v : Value} (h : w.cell? p = some v) : p.block < w.heap.size := block_lt_of_cell h
theorem Ext.cell_some {a b : World} (h : Ext a b) {p : Addr} {v : Value} (hp : a.cell? p = some v) : b.cell? p = some v := (h.cell (cell_lt hp)).trans hp

/-- What a region that draws its order keeps, in the walk's own shape. -/
def Near (W w' : World) : Prop := Ext W w' ∧ ∀ b o, b < W.heap.size → w'.cell? ⟨b, o, none⟩ = W.cell? ⟨b, o, none⟩
theorem Near.of {W w' : World} (h : Ext W w') : Near W w' := ⟨h, fun b o hb => h.cell (p := ⟨b, o, none⟩) hb⟩
theorem Near.refl (W : World) : Near W W := .of (Ext.refl _)
theorem Near.drew {W w1 : World} (h : Near W w1) : Near W w1.drew := .of h.1.drew
theorem Near.step {W w1 w2 : World} (h : Near W w1) (hb : Ext w1 w2) : Near W w2 := .of (h.1.trans hb)

/-- A region that draws its order, whose operations only read and whose callees make memory at most. -/
theorem quiet_cell (W : World) : ∀ d os b o, b < W.heap.size → (Sort.grow (redrawn W d) os).cell? ⟨b, o, none⟩ = W.cell? ⟨b, o, none⟩ :=
  fun d os b o hb => (below_regrown W d os).cell (p := ⟨b, o, none⟩) hb
theorem quiet_near {W w1 : World} (h : Near W w1) : ∀ d os b o, b < W.heap.size → (Sort.grow (redrawn w1 d) os).cell? ⟨b, o, none⟩ = W.cell? ⟨b, o, none⟩ :=
  fun d os b o hb => (quiet_cell w1 d os b o (Nat.lt_of_lt_of_le hb h.1.size)).trans (h.2 b o hb)
theorem quiet_ext {W w1 : World} (h : ∃ p : Regrown, w1 = Sort.grow (redrawn W p.d) p.os) : Ext W w1 := by
  obtain ⟨p, rfl⟩ := h
  exact below_regrown W p.d p.os

/-- A block that is known whole. -/
def Blk (w : World) (g : Nat) (t : TypeId) (cs : Array Value) : Prop := w.heap[g]? = some (.cells cs t (0, 0))
theorem Blk.lt {w : World} {g : Nat} {t : TypeId} {cs : Array Value} (h : Blk w g t cs) : g < w.heap.size := (Array.getElem?_eq_some_iff.1 h).1
theorem Blk.cell {w : World} {g : Nat} {t : TypeId} {cs : Array Value} (h : Blk w g t cs) (i : Nat) : w.cell? ⟨g, i, none⟩ = cs[i]? := cell_of_row w g i cs t (0, 0) h
theorem Blk.frozen {w : World} {g : Nat} {t : TypeId} {cs : Array Value} (h : Blk w g t cs) (i : Nat) : w.frozen? ⟨g, i, none⟩ = false := by
  unfold Blk at h; simp [World.frozen?, h]
theorem Blk.new (w : World) (t : TypeId) (cs : Array Value) : Blk (w.alloc (.cells cs t)) w.heap.size t cs := heap_alloc_new w _
theorem Blk.ext {w w' : World} {g : Nat} {t : TypeId} {cs : Array Value} (h : Blk w g t cs) (hb : Ext w w') : Blk w' g t cs := (Below.block hb g h.lt).trans h

theorem Blk.set0 {w : World} {g : Nat} {t : TypeId} {v : Value} (h : Blk w g t #[v]) (u : Value) : Blk (w.setCell ⟨g, 0, none⟩ u) g t #[u] := by
  unfold Blk at h ⊢
  simp [World.setCell, Array.getElem?_modify, h]
theorem Blk.far {w : World} {g : Nat} {t : TypeId} {cs : Array Value} (h : Blk w g t cs) {p : Addr} (hp : g ≠ p.block) (u : Value) : Blk (w.setCell p u) g t cs := (Below.heap_setCell w p u g hp).trans h
theorem Blk.set_ {w : World} {g : Nat} {t : TypeId} {cs : Array Value} (h : Blk w g t cs) (i : Nat) (u : Value) : Blk (w.setCell ⟨g, i, none⟩ u) g t (cs.setIfInBounds i u) := by
  unfold Blk at h ⊢
  simp [World.setCell, Array.getElem?_modify, h]
theorem Near.set {W w1 : World} (h : Near W w1) {p : Addr} (hp : W.heap.size ≤ p.block) (u : Value) : Near W (w1.setCell p u) := .of (h.1.setCell hp u)
theorem Blk.kept {w w' : World} {g : Nat} {t : TypeId} {cs : Array Value} (h : Blk w g t cs) {row : Option Nat} (hg : w.grownBy w' row) (hr : some g ≠ row) : Blk w' g t cs := (hg.block g h.lt hr).trans h
theorem blk_own {β : Type} (B : Nat) (t : TypeId) (f : β → Array Value) : Own (fun s W => Blk W B t (f s)) := fun s X Y row hs hg hrow =>
  Blk.kept (h := hs) hg (fun e' => by
    obtain ⟨o, ho, hc⟩ := hrow B e'.symm
    have h2 : X.heap[B]? = some (.cells (f s) t (0, 0)) := hs
    rw [h2] at ho; cases ho; cases hc)

/-- The world behind one new block, under a name of its own. -/
theorem box1 (w : World) (cs : Array Value) (t : TypeId) : ∃ W, w.alloc (.cells cs t) = W ∧ Ext w W ∧ Blk W w.heap.size t cs ∧ w.heap.size < W.heap.size :=
  ⟨_, rfl, (Ext.refl w).alloc _, Blk.new w t cs, by simp⟩

theorem box2 (w : World) (cs ds : Array Value) (t u : TypeId) : ∃ W, (w.alloc (.cells cs t)).alloc (.cells ds u) = W ∧ Ext w W ∧ Blk W w.heap.size t cs ∧ Blk W (w.heap.size + 1) u ds ∧ w.heap.size < W.heap.size ∧ w.heap.size + 1 < W.heap.size := by
  refine ⟨_, rfl, ((Ext.refl w).alloc _).alloc _, (Blk.new w t cs).ext ((Ext.refl _).alloc _), ?_, by simp; omega, by simp⟩
  have := Blk.new (w.alloc (.cells cs t)) u ds
  simpa using this

theorem ret_i64 {a b : Int} (h : a = b) : Ending.returned (.int .i64 a) = .returned (.int .i64 b) := by rw [h]
theorem ret_bool {a b : Bool} (h : a = b) : Ending.returned (.bool a) = .returned (.bool b) := by rw [h]

theorem mul_le_of {a b A B : Int} (ha : 0 ≤ a) (hA : a ≤ A) (hb : 0 ≤ b) (hB : b ≤ B) : 0 ≤ a * b ∧ a * b ≤ A * B :=
  ⟨Int.mul_nonneg ha hb, Int.mul_le_mul hA hB hb (Int.le_trans ha hA)⟩
end Go.Proofs.YtemkpimngbbpkaaGreat

namespace Go.Proofs.YtemkpimngbbpkaaGreat
set_option linter.unusedVariables false
set_option linter.unusedSimpArgs false
set_option linter.unusedVariables false
open Go.RowKit

theorem block_of_add (a : Addr) (n : Nat) : (a.add n).block = a.block := by unfold Addr.add; split <;> rfl
theorem add_of_add (a : Addr) (i j : Nat) : (a.add i).add j = a.add (i + j) := by
  unfold Addr.add
  by_cases hi : i = 0 <;> by_cases hj : j = 0 <;> simp [hi, hj, Nat.add_assoc]

def Reads (w : World) (B size : Nat) (A : Option Addr) (n : Nat) (xs : List Value) : Prop :=
  xs.length = n * size ∧ (0 < n → ∃ ad, A = some ad ∧ ad.block < B ∧ ∀ j u, xs[j]? = some u → w.cell? (ad.add j) = some u)

section
variable {w w' : World} {B B' size n : Nat} {A : Option Addr} {xs : List Value}
theorem Reads.none_ : Reads w B size A 0 [] := ⟨by simp, fun h => absurd h (by omega)⟩
theorem Reads.at_ {k : Nat} (h : Reads w B 1 A n xs) (hk : k < n) : ∃ ad u, A = some ad ∧ ad.block < B ∧ xs[k]? = some u ∧ w.cell? (ad.add k) = some u := by
  obtain ⟨ad, e, hb, hc⟩ := h.2 (by omega)
  have hl : k < xs.length := by have := h.1; omega
  exact ⟨ad, xs[k], e, hb, List.getElem?_eq_getElem hl, hc k _ (List.getElem?_eq_getElem hl)⟩
theorem Reads.keep (h : Reads w B size A n xs) (hk : ∀ p : Addr, p.block < B → w'.cell? p = w.cell? p) : Reads w' B size A n xs :=
  ⟨h.1, fun hn => by
    obtain ⟨ad, e, hb, hc⟩ := h.2 hn
    exact ⟨ad, e, hb, fun j u hu => (hk _ (by rw [block_of_add]; exact hb)).trans (hc j u hu)⟩⟩
theorem Reads.more (h : Reads w B size A n xs) (hB : B ≤ B') : Reads w B' size A n xs :=
  ⟨h.1, fun hn => by
    obtain ⟨ad, e, hb, hc⟩ := h.2 hn
    exact ⟨ad, e, by omega, hc⟩⟩
theorem Reads.below (h : Reads w B size A n xs) (hb : Below B w w') : Reads w' B size A n xs := h.keep fun _ hp => hb.cell hp
theorem Reads.drew (h : Reads w B size A n xs) : Reads w.drew B size A n xs := h
theorem Reads.drewN (h : Reads w B size A n xs) (k : Nat) : Reads (w.drewN k) B size A n xs := h
theorem Reads.alloc (h : Reads w B size A n xs) (hB : B ≤ w.heap.size) (o : Obj) : Reads (w.alloc o) B size A n xs := h.keep fun p hp => World.cell?_alloc_lt w o p (by omega)
theorem Reads.setCell (h : Reads w B size A n xs) {p : Addr} (hB : B ≤ p.block) (u : Value) : Reads (w.setCell p u) B size A n xs :=
  h.keep fun q hq => World.cell?_setCell_other w p q u (fun e => by subst e; omega)
theorem Reads.grown (h : Reads w B size A n xs) {row : Option Nat} (hg : w.grownBy w' row) (hB : B ≤ w.heap.size) (hr : ∀ g, row = some g → B ≤ g) : Reads w' B size A n xs :=
  h.keep fun p hp => World.cell?_of_block (hg.block p.block (by omega) (fun e => by have := hr _ e.symm; omega))
theorem Reads.cut (h : Reads w B size A n xs) {k cap : Nat} (hk : k ≤ n) (hc : n ≤ cap) :
    Reads w B size (if cap = k then A else A.map (·.add (k * size))) (n - k) (xs.drop (k * size)) := by
  refine ⟨by rw [List.length_drop, h.1, Nat.sub_mul], fun hn => ?_⟩
  obtain ⟨ad, rfl, hb, hcell⟩ := h.2 (by omega)
  rw [if_neg (by omega)]
  refine ⟨ad.add (k * size), rfl, by rw [block_of_add]; exact hb, fun j u hu => ?_⟩
  rw [add_of_add]
  exact hcell _ u (by rw [← hu, List.getElem?_drop])
theorem Reads.of_own {base : Nat} {e : TypeId} {c : Nat} (h : w.ownsRow base e size (.slice A n c) n xs) : Reads w w.heap.size size A n xs := by
  refine ⟨h.1, fun hn => ?_⟩
  obtain ⟨g, cap, hv, _, hlt⟩ := h.form hn
  have hA : A = some ⟨g, 0, none⟩ := by injection hv
  subst hA
  exact ⟨_, rfl, hlt, h.cells (g := g) rfl⟩
end

section
variable {P : Program} (w : World)

theorem run_append_of_nil (base : Nat) (t ty e : TypeId) (i : TypeInfo) (size : Nat) (ht : P.underlying t = some (.slice e)) (hi : P.info? e = some i)
    (v : Value) (n : Nat) (xs : List Value) (hown : w.ownsRow base e size v n xs) (c : Nat) : (Builtin.append_ #[t, t] ty #[v, .slice none 0 c]).run P w = .ok v w := by
  rcases hown.2 with ⟨rfl, rfl⟩ | ⟨g, cap, cur, rfl, _, _, hnc, _⟩
  · simp [Builtin.append_, run_underlying ht, sizeOf, typeInfo, hi, Builtin.lenOf, Builtin.firstCells]
  · simp [Builtin.append_, run_underlying ht, sizeOf, typeInfo, hi, Builtin.lenOf, Builtin.firstCells, hnc, storeCells]

theorem run_append_any (base : Nat) (t ty e : TypeId) (i : TypeInfo) (z : Value) (size bytes : Nat) (ht : P.underlying t = some (.slice e)) (hi : P.info? e = some i) (hz : i.zero = some z)
    (hsize : i.size = size) (hby : i.bytes = bytes) (hzs : z.cells.size = size) (hsz : 0 < size)
    (v : Value) (n : Nat) (xs : List Value) (hown : w.ownsRow base e size v n xs)
    (B : Nat) (A : Option Addr) (m c : Nat) (news : List Value) (hr : Reads w B size A m news) (h1 : ∀ u ∈ news, u.oneCell' = true)
    (h63 : n + m ≤ maxLen) (hbytes : (n + m) * bytes ≤ 140737488355328) (hbase : base ≤ w.heap.size) :
    ∃ v' w', (Builtin.append_ #[t, t] ty #[v, .slice A m c]).run P w = .ok v' w' ∧ w'.ownsRow base e size v' (n + m) (xs ++ news) ∧ w.grownBy w' v.ownBlock ∧
      (v'.ownBlock = v.ownBlock ∨ v'.ownBlock = some w.heap.size) := by
  rcases A with _ | ad
  · have hm : m = 0 := by
      rcases Nat.eq_zero_or_pos m with h0 | h0
      · exact h0
      · obtain ⟨ad, h, _⟩ := hr.2 h0
        cases h
    subst hm
    have hn : news = [] := List.eq_nil_of_length_eq_zero (by simpa using hr.1)
    subst hn
    exact ⟨v, w, run_append_of_nil w base t ty e i size ht hi v n xs hown c, by simpa using hown, World.grownBy.refl w _, .inl rfl⟩
  · have hcells : ∀ j u, news[j]? = some u → w.cell? (ad.add j) = some u := by
      intro j u hu
      rcases Nat.eq_zero_or_pos m with h0 | h0
      · subst h0
        have hn : news = [] := List.eq_nil_of_length_eq_zero (by simpa using hr.1)
        subst hn
        simp at hu
      · obtain ⟨ad', h, _, hc⟩ := hr.2 h0
        injection h with h
        subst h
        exact hc j u hu
    obtain ⟨v', w', hrun, h2, h3, _, h5⟩ := run_append_own_at (P := P) w base t ty e i z size bytes ht hi hz hsize hby hzs hsz v n xs hown ad m c news hr.1 hcells h1 h63 hbytes hbase
    exact ⟨v', w', hrun, h2, h3, h5⟩

theorem wp_append_any {o : Oper} {a : Act} {K : Act → World → Prop} {Q : Exit → Act → World → Prop} (s x : Operand) (t : TypeId)
    (ho : o.op = .call { callee := .builtin .append, args := #[s, x], argTypes := #[t, t] })
    (base : Nat) (e : TypeId) (i : TypeInfo) (z : Value) (size bytes : Nat) (ht : P.underlying t = some (.slice e)) (hi : P.info? e = some i) (hz : i.zero = some z)
    (hsize : i.size = size) (hby : i.bytes = bytes) (hzs : z.cells.size = size) (hsz : 0 < size)
    (v : Value) (n : Nat) (xs : List Value) (hs : a.eval s = v) (hown : w.ownsRow base e size v n xs)
    (B : Nat) (A : Option Addr) (m c : Nat) (news : List Value) (hx : a.eval x = .slice A m c) (hr : Reads w B size A m news) (h1 : ∀ u ∈ news, u.oneCell' = true)
    (h63 : n + m ≤ maxLen) (hbytes : (n + m) * bytes ≤ 140737488355328) (hbase : base ≤ w.heap.size)
    (h : ∀ v' w', w'.ownsRow base e size v' (n + m) (xs ++ news) → w.grownBy w' v.ownBlock → (v'.ownBlock = v.ownBlock ∨ v'.ownBlock = some w.heap.size) → K (a.put o.dst v') w') : o.wp P a w K Q := by
  obtain ⟨v', w', hrun, h2, h3, h4⟩ := run_append_any (P := P) w base t o.type e i z size bytes ht hi hz hsize hby hzs hsz v n xs hown B A m c news hr h1 h63 hbytes hbase
  unfold Oper.wp execOp
  simp only [ho, resolve, invoke, builtin, Sem.run_bind, Sem.run_pure, Result.andThen_ok, List.map_toArray, List.map_cons, List.map_nil, hs, hx, hrun]
  exact h v' w' h2 h3 h4

theorem wpList_append_any {ops : Array Oper} {rest : List Oper} {o : Oper} {a : Act} {Q : Exit → Act → World → Prop} (hgd : o.guard = none) (s x : Operand) (t : TypeId)
    (ho : o.op = .call { callee := .builtin .append, args := #[s, x], argTypes := #[t, t] })
    (base : Nat) (e : TypeId) (i : TypeInfo) (z : Value) (size bytes : Nat) (ht : P.underlying t = some (.slice e)) (hi : P.info? e = some i) (hz : i.zero = some z)
    (hsize : i.size = size) (hby : i.bytes = bytes) (hzs : z.cells.size = size) (hsz : 0 < size)
    (v : Value) (n : Nat) (xs : List Value) (hs : a.eval s = v) (hown : w.ownsRow base e size v n xs)
    (B : Nat) (A : Option Addr) (m c : Nat) (news : List Value) (hx : a.eval x = .slice A m c) (hr : Reads w B size A m news) (h1 : ∀ u ∈ news, u.oneCell' = true)
    (h63 : n + m ≤ maxLen) (hbytes : (n + m) * bytes ≤ 140737488355328) (hbase : base ≤ w.heap.size)
    (h : ∀ v' w', w'.ownsRow base e size v' (n + m) (xs ++ news) → w.grownBy w' v.ownBlock → (v'.ownBlock = v.ownBlock ∨ v'.ownBlock = some w.heap.size) → wpList P ops Q rest (a.put o.dst v') w') : wpList P ops Q (o :: rest) a w :=
  wpList_plain hgd fun _ hK => wp_append_any w s x t ho base e i z size bytes ht hi hz hsize hby hzs hsz v n xs hs hown B A m c news hx hr h1 h63 hbytes hbase fun v' w' h2 h3 h4 => hK _ _ (h v' w' h2 h3 h4)

theorem step_append_any {ops : Array Oper} {o : Oper} {a : Act} {K : Act → World → Prop} {Q : Exit → Act → World → Prop} {E : Prop} (hgd : o.guard = none) (s x : Operand) (t : TypeId)
    (ho : o.op = .call { callee := .builtin .append, args := #[s, x], argTypes := #[t, t] })
    (base : Nat) (e : TypeId) (i : TypeInfo) (z : Value) (size bytes : Nat) (ht : P.underlying t = some (.slice e)) (hi : P.info? e = some i) (hz : i.zero = some z)
    (hsize : i.size = size) (hby : i.bytes = bytes) (hzs : z.cells.size = size) (hsz : 0 < size)
    (v : Value) (n : Nat) (xs : List Value) (hs : a.eval s = v) (hown : w.ownsRow base e size v n xs)
    (B : Nat) (A : Option Addr) (m c : Nat) (news : List Value) (hx : a.eval x = .slice A m c) (hr : Reads w B size A m news) (h1 : ∀ u ∈ news, u.oneCell' = true)
    (h63 : n + m ≤ maxLen) (hbytes : (n + m) * bytes ≤ 140737488355328) (hbase : base ≤ w.heap.size)
    (h : ∀ v' w', w'.ownsRow base e size v' (n + m) (xs ++ news) → w.grownBy w' v.ownBlock → (v'.ownBlock = v.ownBlock ∨ v'.ownBlock = some w.heap.size) → K (a.put o.dst v') w') :
    if Region.wanted o (yielded ops a.tmps) = true then Oper.wp P o a w K Q else E := by
  have hw : Region.wanted o (yielded ops a.tmps) = true := by simp [Region.wanted, hgd]
  rw [if_pos hw]
  exact wp_append_any w s x t ho base e i z size bytes ht hi hz hsize hby hzs hsz v n xs hs hown B A m c news hx hr h1 h63 hbytes hbase h
end

/-- How the elements of a Go type lie in memory. -/
structure Elt (α : Type) where
  cells : α → List Value
  size : Nat
  len : ∀ x, (cells x).length = size
  pos : 0 < size
  one : ∀ x, ∀ u ∈ cells x, u.oneCell' = true

section
variable {α : Type} (E : Elt α)
def Elt.all (l : List α) : List Value := l.flatMap E.cells
theorem Elt.all_len : ∀ l : List α, (E.all l).length = l.length * E.size
  | [] => by simp [Elt.all]
  | x :: l => by
    have h := Elt.all_len l
    simp only [Elt.all, List.flatMap_cons, List.length_append, List.length_cons] at *
    rw [E.len, h, Nat.add_mul]; omega
theorem Elt.all_append (l m : List α) : E.all (l ++ m) = E.all l ++ E.all m := by simp [Elt.all]
theorem Elt.all_one (l : List α) : ∀ u ∈ E.all l, u.oneCell' = true := by
  intro u hu
  simp only [Elt.all, List.mem_flatMap] at hu
  obtain ⟨x, _, h⟩ := hu
  exact E.one x u h
theorem Elt.all_at : ∀ (l : List α) (k : Nat) (hk : k < l.length) (j : Nat), j < E.size → (E.all l)[k * E.size + j]? = (E.cells l[k])[j]?
  | [], k, hk, _, _ => by simp at hk
  | x :: l, 0, _, j, hj => by
    simp only [Elt.all, List.flatMap_cons, Nat.zero_mul, Nat.zero_add, List.getElem_cons_zero]
    rw [List.getElem?_append_left (by rw [E.len]; exact hj)]
  | x :: l, k + 1, hk, j, hj => by
    have h := Elt.all_at l k (by simpa using hk) j hj
    simp only [Elt.all, List.flatMap_cons, List.getElem_cons_succ] at *
    rw [List.getElem?_append_right (by rw [E.len, Nat.add_mul]; omega), E.len, ← h]
    congr 1
    rw [Nat.add_mul]; omega

/-- The slice '.slice A l.length c' reads as the list l; it lies in memory that is there. -/
def Rd (w : World) (A : Option Addr) (l : List α) : Prop := Reads w w.heap.size E.size A l.length (E.all l)
variable {E} {w w' : World} {A : Option Addr} {l : List α}
theorem Rd.nil : Rd E w A [] := ⟨by simp [Elt.all], fun h => absurd h (by simp)⟩
theorem Rd.ext (h : Rd E w A l) (hb : Ext w w') : Rd E w' A l := (Reads.below h hb).more hb.size
theorem Rd.at (h : Rd E w A l) {k : Nat} (hk : k < l.length) :
    ∃ b o, A = some ⟨b, o, none⟩ ∧ b < w.heap.size ∧ ∀ j u, (E.cells l[k])[j]? = some u → w.cell? ⟨b, o + k * E.size + j, none⟩ = some u := by
  obtain ⟨ad, e, hb, hc⟩ := h.2 (by omega)
  have h0 : ∃ u, (E.all l)[0]? = some u := by
    have : 0 < (E.all l).length := by rw [E.all_len]; exact Nat.mul_pos (by omega) E.pos
    exact ⟨_, List.getElem?_eq_getElem this⟩
  obtain ⟨u0, hu0⟩ := h0
  have hsp := World.cell?_spot (hc 0 u0 hu0)
  have hsp' : ad.spot = none := by simpa [Addr.add] using hsp
  obtain ⟨b, o, sp⟩ := ad
  simp only at hsp'
  subst hsp'
  refine ⟨b, o, e, hb, fun j u hu => ?_⟩
  have hj : j < E.size := by
    have := (List.getElem?_eq_some_iff.1 hu).1
    rw [E.len] at this; exact this
  have h2 := hc (k * E.size + j) u (by rw [E.all_at l k hk j hj]; exact hu)
  rw [Addr.add_lit] at h2
  rw [Nat.add_assoc]; exact h2

/-- The slice v is the call's own (nil, or in blocks from base on), and holds the list l. -/
def Owns (E : Elt α) (w : World) (base : Nat) (e : TypeId) (v : Value) (l : List α) : Prop := w.ownsRow base e E.size v l.length (E.all l)
theorem Owns.none_ (base : Nat) (e : TypeId) : Owns E w base e (.slice none 0 0) [] := ⟨by simp [Elt.all], .inl ⟨rfl, rfl⟩⟩
theorem Owns.form {base : Nat} {e : TypeId} {v : Value} (h : Owns E w base e v l) : ∃ A cap, v = .slice A l.length cap ∧ Rd E w A l := by
  have h2 := h
  rcases h.2 with ⟨rfl, h0⟩ | ⟨g, cap, cur, rfl, _, hh, _⟩
  · have : l = [] := List.eq_nil_of_length_eq_zero h0
    subst this
    exact ⟨none, 0, rfl, Rd.nil⟩
  · exact ⟨_, cap, rfl, Reads.of_own h2⟩
theorem Owns.ext {base : Nat} {e : TypeId} {v : Value} (h : Owns E w base e v l) (hb : Ext w w') : Owns E w' base e v l :=
  ⟨h.1, h.2.imp id fun ⟨g, cap, cur, hv, hg, hh, r⟩ => ⟨g, cap, cur, hv, hg, (Below.block hb g (Array.getElem?_eq_some_iff.1 hh).1).trans hh, r⟩⟩
theorem Owns.kept {base : Nat} {e : TypeId} {v : Value} (h : Owns E w base e v l) {row : Option Nat} (hg : w.grownBy w' row) (hr : ∀ g, v.ownBlock = some g → some g ≠ row) : Owns E w' base e v l :=
  ⟨h.1, h.2.imp id fun ⟨g, cap, cur, hv, hgb, hh, r⟩ => ⟨g, cap, cur, hv, hgb, (hg.block g (Array.getElem?_eq_some_iff.1 hh).1 (hr g (by rw [hv]; rfl))).trans hh, r⟩⟩
theorem Owns.mono {base base' : Nat} {e : TypeId} {v : Value} (h : Owns E w base e v l) (hb : base' ≤ base) : Owns E w base' e v l :=
  ⟨h.1, h.2.imp id fun ⟨g, cap, cur, hv, hg, r⟩ => ⟨g, cap, cur, hv, Nat.le_trans hb hg, r⟩⟩
theorem Owns.block {base : Nat} {e : TypeId} {v : Value} (h : Owns E w base e v l) {g : Nat} (hv : v.ownBlock = some g) : base ≤ g ∧ g < w.heap.size := by
  rcases h.2 with ⟨rfl, _⟩ | ⟨g', cap, cur, rfl, hb, hh, _⟩
  · cases hv
  · cases hv
    exact ⟨hb, (Array.getElem?_eq_some_iff.1 hh).1⟩

end

end Go.Proofs.YtemkpimngbbpkaaGreat

/- Lists in memory: append of one element to a list of the call's own. -/
namespace Go.Proofs.YtemkpimngbbpkaaGreat
set_option linter.unusedVariables false
set_option linter.unusedSimpArgs false
set_option linter.unusedVariables false
open Go.RowKit

section
variable {α : Type} {E : Elt α} {w w' : World} {A : Option Addr} {l : List α} {P : Program}
theorem reads_one {g : Nat} {e : TypeId} {y : α} (h : Blk w g e (E.cells y).toArray) : Reads w w.heap.size E.size (some ⟨g, 0, none⟩) 1 (E.cells y) :=
  ⟨by rw [E.len, Nat.one_mul], fun _ => ⟨_, rfl, h.lt, fun j u hu => by
    rw [Addr.add_lit, Nat.zero_add, h.cell]
    simpa using hu⟩⟩

theorem wpList_push {ops : Array Oper} {rest : List Oper} {o : Oper} {a : Act} {Q : Exit → Act → World → Prop} (hgd : o.guard = none) (s x : Operand) (t : TypeId)
    (ho : o.op = .call { callee := .builtin .append, args := #[s, x], argTypes := #[t, t] })
    (base : Nat) (e : TypeId) (i : TypeInfo) (z : Value) (bytes : Nat) (ht : P.underlying t = some (.slice e)) (hi : P.info? e = some i) (hz : i.zero = some z)
    (hsize : i.size = E.size) (hby : i.bytes = bytes) (hzs : z.cells.size = E.size)
    (v : Value) (hs : a.eval s = v) (hown : Owns E w base e v l)
    (g : Nat) (y : α) (hx : a.eval x = .slice (some ⟨g, 0, none⟩) 1 1) (hy : Blk w g e (E.cells y).toArray)
    (h63 : l.length + 1 ≤ maxLen) (hbytes : (l.length + 1) * bytes ≤ 140737488355328) (hbase : base ≤ w.heap.size)
    (h : ∀ v' w', Owns E w' base e v' (l ++ [y]) → w.grownBy w' v.ownBlock → (v'.ownBlock = v.ownBlock ∨ v'.ownBlock = some w.heap.size) → wpList P ops Q rest (a.put o.dst v') w') : wpList P ops Q (o :: rest) a w :=
  wpList_append_any w hgd s x t ho base e i z E.size bytes ht hi hz hsize hby hzs E.pos v l.length (E.all l) hs hown w.heap.size _ 1 1 (E.cells y) hx (reads_one hy) (E.one y) h63 hbytes hbase
    fun v' w' h1 h2 h3 => h v' w' (by
      unfold Owns
      rw [E.all_append, List.length_append]
      simpa [Elt.all] using h1) h2 h3

/-- The world behind an append: old memory stays. -/
theorem ext_grown {w0 : World} {base : Nat} {e : TypeId} {v : Value} (h0 : Ext w0 w) (hown : Owns E w base e v l) (hb : w0.heap.size ≤ base) (hg : w.grownBy w' v.ownBlock) : Ext w0 w' :=
  Below.grown h0 hg h0.size (fun k hk => Nat.le_trans hb (hown.block hk).1)
end

end Go.Proofs.YtemkpimngbbpkaaGreat

/- Lists in memory: append of a whole list to a list of the call's own. -/
namespace Go.Proofs.YtemkpimngbbpkaaGreat
set_option linter.unusedVariables false
set_option linter.unusedSimpArgs false
set_option linter.unusedVariables false
open Go.RowKit

section
variable {α : Type} {E : Elt α} {w w' : World} {A : Option Addr} {l m : List α} {P : Program}
theorem Owns.rd {base : Nat} {e : TypeId} {n c : Nat} (h : Owns E w base e (.slice A n c) l) : Rd E w A l := by
  obtain ⟨A2, c2, h2, hr⟩ := h.form
  injection h2 with h3 h4 h5
  rw [h3]; exact hr
theorem Owns.len {base : Nat} {e : TypeId} {n c : Nat} (h : Owns E w base e (.slice A n c) l) : n = l.length := by
  obtain ⟨A2, c2, h2, hr⟩ := h.form
  injection h2

theorem rd_blk {g : Nat} {e : TypeId} (h : Blk w g e (E.all l).toArray) : Rd E w (some ⟨g, 0, none⟩) l :=
  ⟨E.all_len l, fun _ => ⟨_, rfl, h.lt, fun j u hu => by
    rw [Addr.add_lit, Nat.zero_add, h.cell]
    simpa using hu⟩⟩
theorem Owns.made (w : World) (base : Nat) (e : TypeId) (hb : base ≤ w.heap.size) : Owns E (w.alloc (.cells #[] e)) base e (.slice (some ⟨w.heap.size, 0, none⟩) 0 0) [] :=
  World.ownsRow_made w #[] 0 hb (by unfold maxLen; omega) (by simp)

theorem step_push {ops : Array Oper} {o : Oper} {a : Act} {K : Act → World → Prop} {Q : Exit → Act → World → Prop} {Z : Prop} (hgd : o.guard = none) (s x : Operand) (t : TypeId)
    (ho : o.op = .call { callee := .builtin .append, args := #[s, x], argTypes := #[t, t] })
    (base : Nat) (e : TypeId) (i : TypeInfo) (z : Value) (bytes : Nat) (ht : P.underlying t = some (.slice e)) (hi : P.info? e = some i) (hz : i.zero = some z)
    (hsize : i.size = E.size) (hby : i.bytes = bytes) (hzs : z.cells.size = E.size)
    (v : Value) (hs : a.eval s = v) (hown : Owns E w base e v l)
    (g : Nat) (y : α) (hx : a.eval x = .slice (some ⟨g, 0, none⟩) 1 1) (hy : Blk w g e (E.cells y).toArray)
    (h63 : l.length + 1 ≤ maxLen) (hbytes : (l.length + 1) * bytes ≤ 140737488355328) (hbase : base ≤ w.heap.size)
    (h : ∀ v' w', Owns E w' base e v' (l ++ [y]) → w.grownBy w' v.ownBlock → (v'.ownBlock = v.ownBlock ∨ v'.ownBlock = some w.heap.size) → K (a.put o.dst v') w') :
    if Region.wanted o (yielded ops a.tmps) = true then Oper.wp P o a w K Q else Z :=
  step_append_any w hgd s x t ho base e i z E.size bytes ht hi hz hsize hby hzs E.pos v l.length (E.all l) hs hown w.heap.size _ 1 1 (E.cells y) hx (reads_one hy) (E.one y) h63 hbytes hbase
    fun v' w' h1 h2 h3 => h v' w' (by
      unfold Owns
      rw [E.all_append, List.length_append]
      simpa [Elt.all] using h1) h2 h3

/-- Where 's[k:]' lies. -/
def cutA (A : Option Addr) (c k s : Nat) : Option Addr := if c = k then A else A.map (·.add (k * s))
theorem Rd.cut {c k : Nat} (h : Rd E w A l) (hk : k ≤ l.length) (hc : l.length ≤ c) : Rd E w (cutA A c k E.size) (l.drop k) := by
  have h1 := Reads.cut h hk hc
  have h2 : (E.all l).drop (k * E.size) = E.all (l.drop k) := by
    have : E.all l = E.all (l.take k) ++ E.all (l.drop k) := by rw [← E.all_append, List.take_append_drop]
    rw [this, List.drop_append, List.drop_eq_nil_of_le (by rw [E.all_len, List.length_take]; rw [Nat.min_eq_left hk]; exact Nat.le_refl _), E.all_len, List.length_take, Nat.min_eq_left hk, Nat.sub_self, List.drop_zero, List.nil_append]
  unfold Rd
  rw [List.length_drop, ← h2]
  exact h1
theorem run_cut {t e : TypeId} {i : TypeInfo} {sz : Nat} (ht : P.underlying t = some (.slice e)) (hi : P.info? e = some i) (hsz : i.size = sz) {n c k : Nat} (hk : k ≤ n) (w : World) :
    (Instr.slice t (.slice A n c) (some (.int .i64 (k : Int))) none none).run P w = .ok (.slice (cutA A c k sz) (n - k) (c - k)) w := by
  have he : P.elem t = e := by simp [Program.elem, ht]
  rw [run_slice_l w t A n c (by rw [he]; exact ht) .i64 (k : Int) (by omega) (by omega), he, run_sizeOf w hi]
  simp [Result.andThen, sliced, cutA, Program.cellsOf, hi, hsz]
theorem run_cutAt {t e : TypeId} {i : TypeInfo} {sz : Nat} (ht : P.underlying t = some (.slice e)) (hi : P.info? e = some i) (hsz : i.size = sz) {n c k : Nat} (hk : k ≤ n) (w : World) :
    (Instr.sliceAt t (.slice A n c) (some (.int .i64 (k : Int))) none none).run P w = .ok (.slice (cutA A c k sz) (n - k) (c - k)) w := by
  have he : P.elem t = e := by simp [Program.elem, ht]
  rw [run_sliceAt_slice w t _ _ _ _ (by rw [he]; exact ht), run_cut ht hi hsz hk]

theorem wpList_cat {ops : Array Oper} {rest : List Oper} {o : Oper} {a : Act} {Q : Exit → Act → World → Prop} (hgd : o.guard = none) (s x : Operand) (t : TypeId)
    (ho : o.op = .call { callee := .builtin .append, args := #[s, x], argTypes := #[t, t] })
    (base : Nat) (e : TypeId) (i : TypeInfo) (z : Value) (bytes : Nat) (ht : P.underlying t = some (.slice e)) (hi : P.info? e = some i) (hz : i.zero = some z)
    (hsize : i.size = E.size) (hby : i.bytes = bytes) (hzs : z.cells.size = E.size)
    (v : Value) (hs : a.eval s = v) (hown : Owns E w base e v l)
    (c n : Nat) (hx : a.eval x = .slice A n c) (hn : n = m.length) (hr : Rd E w A m)
    (h63 : l.length + m.length ≤ maxLen) (hbytes : (l.length + m.length) * bytes ≤ 140737488355328) (hbase : base ≤ w.heap.size)
    (h : ∀ v' w', Owns E w' base e v' (l ++ m) → w.grownBy w' v.ownBlock → (v'.ownBlock = v.ownBlock ∨ v'.ownBlock = some w.heap.size) → wpList P ops Q rest (a.put o.dst v') w') : wpList P ops Q (o :: rest) a w := by
  subst hn
  exact wpList_append_any w hgd s x t ho base e i z E.size bytes ht hi hz hsize hby hzs E.pos v l.length (E.all l) hs hown w.heap.size A m.length c (E.all m) hx hr (E.all_one m) h63 hbytes hbase
    fun v' w' h1 h2 h3 => h v' w' (by
      unfold Owns
      rw [E.all_append, List.length_append]
      exact h1) h2 h3
end

end Go.Proofs.YtemkpimngbbpkaaGreat

/- Lists in memory: a store into a list of the call's own; clear. -/
namespace Go.Proofs.YtemkpimngbbpkaaGreat
set_option linter.unusedVariables false
set_option linter.unusedSimpArgs false
set_option linter.unusedVariables false
open Go.RowKit

/-- An array with a run of cells written. -/
def arrSets (cs : Array Value) : Nat → List Value → Array Value
  | _, [] => cs
  | o, v :: vs => arrSets (cs.setIfInBounds o v) (o + 1) vs
theorem arrSets_size : ∀ (vs : List Value) (cs : Array Value) (o : Nat), (arrSets cs o vs).size = cs.size
  | [], _, _ => rfl
  | v :: vs, cs, o => by simp [arrSets, arrSets_size vs]
theorem arrSets_get : ∀ (vs : List Value) (cs : Array Value) (o q : Nat), o + vs.length ≤ cs.size → (arrSets cs o vs)[q]? = if o ≤ q ∧ q < o + vs.length then vs[q - o]? else cs[q]?
  | [], cs, o, q, _ => by
    simp only [arrSets, List.length_nil]
    rw [if_neg (by omega)]
  | v :: vs, cs, o, q, h => by
    simp only [arrSets]
    rw [List.length_cons] at h
    rw [arrSets_get vs _ (o + 1) q (by simp; omega), Array.getElem?_setIfInBounds, List.length_cons]
    by_cases h1 : o + 1 ≤ q ∧ q < o + 1 + vs.length
    · rw [if_pos h1, if_pos (by omega)]
      obtain ⟨d, rfl⟩ : ∃ d, q = o + 1 + d := ⟨q - (o + 1), by omega⟩
      rw [show o + 1 + d - (o + 1) = d by omega, show o + 1 + d - o = d + 1 by omega]
      rfl
    · rw [if_neg h1]
      by_cases h2 : o = q
      · subst h2
        rw [if_pos rfl, if_pos (by omega), if_pos (by omega), Nat.sub_self]
        rfl
      · rw [if_neg h2, if_neg (by omega)]

theorem Blk.setCells_ : ∀ (vs : List Value) {w : World} {g : Nat} {t : TypeId} {cs : Array Value} (_ : Blk w g t cs) (o : Nat), Blk (w.setCells g o vs) g t (arrSets cs o vs)
  | [], _, _, _, _, h, _ => h
  | v :: vs, _, _, _, _, h, o => Blk.setCells_ vs (h.set_ o v) (o + 1)

theorem grown_setCells : ∀ (vs : List Value) {a w : World} {g : Nat} (_ : a.grownBy w (some g)) (o : Nat), a.grownBy (w.setCells g o vs) (some g)
  | [], _, _, _, h, _ => h
  | v :: vs, a, w, g, h, o => grown_setCells vs (w := w.setCell ⟨g, o, none⟩ v) ⟨h.os, h.tape, h.output, by simpa [World.setCell] using h.size, fun i hi hne => (Below.heap_setCell w ⟨g, o, none⟩ v i (fun e => hne (by rw [e]))).trans (h.block i hi hne)⟩ (o + 1)
theorem ext_setCells {a w : World} {g : Nat} (h : Ext a w) (hg : a.heap.size ≤ g) (o : Nat) (vs : List Value) : Ext a (w.setCells g o vs) :=
  Below.grown h (grown_setCells vs (World.grownBy.refl w _) o) h.size (fun k hk => by injection hk with hk; omega)

section
variable {α : Type} {E : Elt α} {w w' : World} {A : Option Addr} {l m : List α} {P : Program}
theorem all_set (k : Nat) (y : α) : ∀ (m : List α), k < m.length → ∀ q, (E.all (m.set k y))[q]? = if k * E.size ≤ q ∧ q < k * E.size + E.size then (E.cells y)[q - k * E.size]? else (E.all m)[q]? := by
  intro m hk q
  have hpos := E.pos
  by_cases hq : q < m.length * E.size
  · have hk1 : q / E.size < m.length := Nat.div_lt_of_lt_mul (by rw [Nat.mul_comm]; exact hq)
    have hr : q % E.size < E.size := Nat.mod_lt _ hpos
    have e1 : q / E.size * E.size + q % E.size = q := by rw [Nat.mul_comm]; exact Nat.div_add_mod q E.size
    have h1 := E.all_at (m.set k y) (q / E.size) (by simpa using hk1) (q % E.size) hr
    have h2 := E.all_at m (q / E.size) hk1 (q % E.size) hr
    rw [e1] at h1 h2
    rw [h1, h2]
    by_cases e : q / E.size = k
    · subst e
      rw [if_pos (by constructor <;> omega)]
      simp only [List.getElem_set_self]
      congr 1
      omega
    · rw [if_neg]
      · rw [List.getElem_set_ne (by omega)]
      · rintro ⟨a, b⟩
        apply e
        exact Nat.div_eq_of_lt_le a (by rw [Nat.add_mul, Nat.one_mul]; exact b)
  · rw [if_neg, List.getElem?_eq_none (by rw [E.all_len]; simpa using Nat.le_of_not_lt hq), List.getElem?_eq_none (by rw [E.all_len]; exact Nat.le_of_not_lt hq)]
    rintro ⟨a, b⟩
    apply hq
    have : (k + 1) * E.size ≤ m.length * E.size := Nat.mul_le_mul_right _ hk
    rw [Nat.add_mul, Nat.one_mul] at this
    omega

theorem Owns.set_ {base : Nat} {e : TypeId} {g n c : Nat} (h : Owns E w base e (.slice (some ⟨g, 0, none⟩) n c) m) {k : Nat} (hk : k < m.length) (y : α) :
    Owns E (w.setCells g (k * E.size) (E.cells y)) base e (.slice (some ⟨g, 0, none⟩) n c) (m.set k y) := by
  have hn := h.len
  subst hn
  rcases h.2 with ⟨h1, _⟩ | ⟨g', cap, cur, h1, hg, hh, hnc, hcap, hsz, ht⟩
  · cases h1
  · injection h1 with h2 h3 h4
    injection h2 with h2
    injection h2 with h2
    subst h2 h4
    have hb := Blk.setCells_ (E.cells y) (show Blk w g e cur from hh) (k * E.size)
    refine ⟨by rw [E.all_len], .inr ⟨g, c, _, by rw [List.length_set], hg, hb, by rw [List.length_set]; exact hnc, hcap, by rw [arrSets_size]; exact hsz, ?_⟩⟩
    rw [List.length_set]
    have hle : (k + 1) * E.size ≤ m.length * E.size := Nat.mul_le_mul_right _ hk
    have hle2 : m.length * E.size ≤ c * E.size := Nat.mul_le_mul_right _ hnc
    rw [Nat.add_mul, Nat.one_mul] at hle
    apply List.ext_getElem?
    intro q
    rw [all_set k y m hk q]
    by_cases hq : q < m.length * E.size
    · rw [List.getElem?_take_of_lt hq, Array.getElem?_toList, arrSets_get _ _ _ _ (by rw [E.len]; omega), E.len]
      split
      · rfl
      · rw [← ht, List.getElem?_take_of_lt hq, Array.getElem?_toList]
    · rw [List.getElem?_take_eq_none (by omega), if_neg (by omega), List.getElem?_eq_none (by rw [E.all_len]; omega)]

/-- The cells of element k may be written. -/
theorem Owns.there_ {base : Nat} {e : TypeId} {g n c : Nat} (h : Owns E w base e (.slice (some ⟨g, 0, none⟩) n c) m) :
    ∃ cur : Array Value, Blk w g e cur ∧ cur.size = c * E.size ∧ m.length ≤ c ∧ ∀ (k : Nat) (hk : k < m.length) (j : Nat), j < E.size → cur[k * E.size + j]? = (E.cells m[k])[j]? := by
  have hn := h.len
  subst hn
  rcases h.2 with ⟨h1, _⟩ | ⟨g', cap, cur, h1, hg, hh, hnc, hcap, hsz, ht⟩
  · cases h1
  · injection h1 with h2 h3 h4
    injection h2 with h2
    injection h2 with h2
    subst h2 h4
    refine ⟨cur, hh, hsz, hnc, fun k hk j hj => ?_⟩
    rw [← E.all_at m k hk j hj, ← ht]
    have hle : (k + 1) * E.size ≤ m.length * E.size := Nat.mul_le_mul_right _ hk
    rw [Nat.add_mul, Nat.one_mul] at hle
    rw [List.getElem?_take_of_lt (by omega), Array.getElem?_toList]
end

end Go.Proofs.YtemkpimngbbpkaaGreat

/- Lists in memory: lists of integers; a list's beginning. -/
namespace Go.Proofs.YtemkpimngbbpkaaGreat
set_option linter.unusedVariables false
set_option linter.unusedSimpArgs false
set_option linter.unusedVariables false
open Go.RowKit

def EInt : Elt Int := ⟨fun x => [.int .i64 x], 1, fun _ => rfl, by omega, fun x u hu => by simp at hu; subst hu; rfl⟩
theorem Rd.int {w : World} {A : Option Addr} {l : List Int} (h : Rd EInt w A l) {k : Nat} (hk : k < l.length) : ∃ b o, A = some ⟨b, o, none⟩ ∧ b < w.heap.size ∧ w.cell? ⟨b, o + k, none⟩ = some (.int .i64 l[k]) := by
  obtain ⟨b, o, rfl, hb, hc⟩ := h.at hk
  refine ⟨b, o, rfl, hb, ?_⟩
  have := hc 0 (.int .i64 l[k]) rfl
  simpa [EInt] using this

section
variable {α : Type} {E : Elt α} {w w' : World} {A : Option Addr} {l m : List α} {P : Program}
theorem Rd.take (h : Rd E w A l) (k : Nat) : Rd E w A (l.take k) := by
  refine ⟨E.all_len _, fun hn => ?_⟩
  have hn' : 0 < (l.take k).length := hn
  rw [List.length_take] at hn'
  obtain ⟨ad, e, hb, hc⟩ := h.2 (by omega)
  refine ⟨ad, e, hb, fun j u hu => hc j u ?_⟩
  have : E.all l = E.all (l.take k) ++ E.all (l.drop k) := by rw [← E.all_append, List.take_append_drop]
  rw [this, List.getElem?_append_left (List.getElem?_eq_some_iff.1 hu).1]
  exact hu
theorem addr_map0 (A : Option Addr) (s : Nat) : A.map (·.add (0 * s)) = A := by
  cases A <;> simp [Addr.add]
theorem run_take {t e : TypeId} {i : TypeInfo} (ht : P.underlying t = some (.slice e)) (hi : P.info? e = some i) {n c k : Nat} (hk : k ≤ c) (w : World) :
    (Instr.slice t (.slice A n c) none (some (.int .i64 (k : Int))) none).run P w = .ok (.slice A k c) w := by
  have he : P.elem t = e := by simp [Program.elem, ht]
  rw [run_slice_h w t A n c (by rw [he]; exact ht) .i64 (k : Int) (by omega) (by omega), he, run_sizeOf w hi]
  simp only [Result.andThen, sliced, addr_map0, ite_self]
  simp
theorem run_takeAt {t e : TypeId} {i : TypeInfo} (ht : P.underlying t = some (.slice e)) (hi : P.info? e = some i) {n c k : Nat} (hk : k ≤ c) (w : World) :
    (Instr.sliceAt t (.slice A n c) none (some (.int .i64 (k : Int))) none).run P w = .ok (.slice A k c) w := by
  have he : P.elem t = e := by simp [Program.elem, ht]
  rw [run_sliceAt_slice w t _ _ _ _ (by rw [he]; exact ht)]
  exact run_take ht hi hk w
theorem take_snoc {l : List α} {k : Nat} {x : α} (h : k < l.length) (hx : l[k] = x) : l.take (k + 1) = l.take k ++ [x] := by
  rw [List.take_succ_eq_append_getElem h, hx]
theorem any_step {p : α → Bool} {l : List α} {k : Nat} {y : α} (h : k < l.length) (hy : l[k] = y) (h0 : (l.take k).any p = false) (h1 : p y = false) : (l.take (k + 1)).any p = false := by
  rw [take_snoc h hy, List.any_append, h0]; simp [h1]
theorem any_hit {p : α → Bool} {l : List α} {k : Nat} {y : α} (h : k < l.length) (hy : l[k] = y) (h1 : p y = true) : l.any p = true :=
  List.any_eq_true.2 ⟨y, hy ▸ List.getElem_mem h, h1⟩
def findI (p : α → Bool) (l : List α) : Int := if l.any p then (l.findIdx p : Nat) else -1
theorem findI_at {p : α → Bool} {l : List α} {k : Nat} (h : k < l.length) (h1 : (l.take k).any p = false) (h2 : p l[k] = true) : findI p l = k := by
  have h3 : l.any p = true := List.any_eq_true.2 ⟨l[k], List.getElem_mem h, h2⟩
  have h4 : l.findIdx p = k := (List.findIdx_eq h).2 ⟨h2, fun j hj => by
    have h5 := List.any_eq_false.1 h1 (l[j]'(by omega)) (by
      rw [List.mem_take_iff_getElem]
      exact ⟨j, by omega, rfl⟩)
    simpa using h5⟩
  unfold findI
  rw [if_pos h3, h4]
theorem findI_nope {p : α → Bool} {l : List α} (h : l.any p = false) : findI p l = -1 := by unfold findI; rw [h]; rfl
theorem findI_neg {p : α → Bool} {l : List α} : decide (0 ≤ findI p l) = l.any p := by
  unfold findI
  split
  · rename_i h; rw [h]; simp
  · rename_i h; simp at h; simp; exact h
end

end Go.Proofs.YtemkpimngbbpkaaGreat

/- Lists of integers of the call's own: reading and writing one; what stays when one block is written. -/
namespace Go.Proofs.YtemkpimngbbpkaaGreat
set_option linter.unusedVariables false
set_option linter.unusedSimpArgs false
set_option linter.unusedVariables false
open Go.RowKit

/-- An element of a list of numbers. -/
def gi (m : List Int) (i : Int) : Int := m.getD i.toNat 0
theorem gi_get {m : List Int} {k : Nat} (h : k < m.length) : gi m (k : Int) = m[k] := by simp [gi, h]
theorem gi_of {m : List Int} {i : Int} (h0 : 0 ≤ i) (h : i.toNat < m.length) : gi m i = m[i.toNat] := by simp [gi, h]
theorem gi_mem {m : List Int} {i : Int} (h : i.toNat < m.length) : gi m i ∈ m := by simp [gi, h]
theorem gi_set {m : List Int} {i j v : Int} (hi : i.toNat < m.length) : gi (m.set i.toNat v) j = if j.toNat = i.toNat then v else gi m j := by
  unfold gi
  simp only [List.getD_eq_getElem?_getD]
  by_cases h : j.toNat = i.toNat
  · rw [if_pos h, h, List.getElem?_set_self hi]; rfl
  · rw [if_neg h, List.getElem?_set_ne (by omega)]

theorem Owns.gi {w : World} {base : Nat} {e : TypeId} {g n c : Nat} {m : List Int} (h : Owns EInt w base e (.slice (some ⟨g, 0, none⟩) n c) m) {i : Int} (hi : i.toNat < m.length) :
    w.cell? ⟨g, i.toNat, none⟩ = some (.int .i64 (gi m i)) := by
  obtain ⟨cur, hb, _, _, hc⟩ := h.there_
  have h1 := hc i.toNat hi 0 (by decide)
  have e1 : i.toNat * EInt.size + 0 = i.toNat := by show i.toNat * 1 + 0 = _; omega
  rw [e1] at h1
  rw [hb.cell, h1]
  simp [EInt, Go.Proofs.YtemkpimngbbpkaaGreat.gi, hi]
theorem Owns.free {w : World} {base : Nat} {e : TypeId} {g n c : Nat} {m : List Int} (h : Owns EInt w base e (.slice (some ⟨g, 0, none⟩) n c) m) : g < w.heap.size ∧ ∀ i, w.frozen? ⟨g, i, none⟩ = false := by
  obtain ⟨cur, hb, _, _, hc⟩ := h.there_
  exact ⟨hb.lt, hb.frozen⟩
theorem grown_setCell {a w : World} {g : Nat} (h : a.grownBy w (some g)) (o : Nat) (u : Value) : a.grownBy (w.setCell ⟨g, o, none⟩ u) (some g) := grown_setCells [u] h o
theorem grown_ext {a w w' : World} {row : Option Nat} (h : a.grownBy w row) (hb : Ext w w') : a.grownBy w' row :=
  ⟨hb.os.trans h.os, hb.tape.trans h.tape, hb.output.trans h.output, Nat.le_trans h.size hb.size, fun i hi hn => (hb.block i (Nat.lt_of_lt_of_le hi h.size)).trans (h.block i hi hn)⟩
theorem ext_of_grown {w0 a w : World} {g : Nat} (h0 : Ext w0 a) (h : a.grownBy w (some g)) (hg : w0.heap.size ≤ g) : Ext w0 w :=
  Below.grown h0 h h0.size (fun k hk => by injection hk with hk; omega)
theorem Rd.gi {w : World} {b o : Nat} {l : List Int} (h : Rd EInt w (some ⟨b, o, none⟩) l) {i : Int} (hi : i.toNat < l.length) : w.cell? ⟨b, o + i.toNat, none⟩ = some (.int .i64 (gi l i)) ∧ b < w.heap.size := by
  obtain ⟨b', o', e', hb', hc⟩ := h.int hi
  injection e' with e'
  injection e' with e1 e2 _
  subst e1 e2
  refine ⟨?_, hb'⟩
  rw [hc]
  simp [Go.Proofs.YtemkpimngbbpkaaGreat.gi, hi]
theorem Owns.cap {α : Type} {E : Elt α} {w : World} {base : Nat} {e : TypeId} {A : Option Addr} {n c : Nat} {m : List α} (h : Owns E w base e (.slice A n c) m) : m.length ≤ c := by
  rcases h.2 with ⟨h1, h2⟩ | ⟨g', cap, cur, h1, hg, hh, hnc, _⟩
  · omega
  · injection h1 with _ _ h4
    omega
end Go.Proofs.YtemkpimngbbpkaaGreat

namespace Go.Proofs.YtemkpimngbbpkaaGreat
set_option linter.unusedVariables false
set_option linter.unusedSimpArgs false
set_option linter.unusedVariables false
open Go.ChangeShapes Go.WideShapes Go.ChangeAt Go.RowKit Go.Deep

section
variable {H : Type} {enc : TypeId × Value → H} {P : Program}

theorem trodAll_stays (hl : laidOutB P = true) {W W' : World} {sp : Nat → Bool} : ∀ {ts : List TypeId} {vs : List Value} {ds : List (DataW H)} {ps : List MemPlace},
    ts.all (fun t => P.readableRec t && decide (t < P.types.size)) = true → DataW.TrodAll enc P W 0 (fun _ => true) true ts vs ds ps → (∀ p ∈ ps, W.sameAt W' p) → (∀ p ∈ ps, sp p.block = true) →
    DataW.TrodAll enc P W' 0 sp true ts vs ds ps
  | [], [], [], _, _, h, _, _ => h
  | [], [], _ :: _, _, _, h, _, _ => h.elim
  | [], _ :: _, _, _, _, h, _, _ => h.elim
  | _ :: _, [], _, _, _, h, _, _ => h.elim
  | _ :: _, _ :: _, [], _, _, h, _, _ => h.elim
  | t :: ts, v :: vs, d :: ds, ps, hr, h, hs, hp => by
    obtain ⟨p, q, h1, h2, rfl⟩ := h
    simp only [List.all_cons, Bool.and_eq_true, decide_eq_true_eq] at hr
    exact ⟨p, q, WideElems.Trod_stays hl hr.1.1 hr.1.2 h1 (fun x hx => hs x (List.mem_append_left _ hx)) (fun x hx => hp x (List.mem_append_left _ hx)),
      trodAll_stays hl hr.2 h2 (fun x hx => hs x (List.mem_append_right _ hx)) (fun x hx => hp x (List.mem_append_right _ hx)), rfl⟩

/-- A law: it returned true, and what lay before the call lies as it lay. -/
theorem law_post {f : Func} {s : ChangeSpec} {W W' : World} {args : Array Value} {ds gs : List (DataW H)} {before : List MemPlace} {tb : TypeId}
    (hl : laidOutB P = true) (hr : f.params.toList.all (fun t => P.readableRec t && decide (t < P.types.size)) = true) (hsv : s.vars = [])
    (hfn : s.fn H (ds ++ gs) = { results := [.lit (.bool true)], args := ds }) (hrt : f.resultTypes = #[tb]) (htb : P.underlying tb = some .bool)
    (hW : DataW.Whole enc P f.params.toList s.vars false W args.toList ds gs before) (hb : Ext W W') : s.post enc P f false true false false W args (.bool true) W' := by
  have hlt := fun p (hp : p ∈ before) => hW.lt p hp
  have hW2 := hW
  obtain ⟨p, q, hA, hV, rfl, _, _⟩ := hW2
  have hq : q = [] := by
    rw [hsv] at hV
    exact (trodVars_none hV).2
  subst hq
  refine ⟨ds, gs, p ++ [], [], p, [], hW, ?_, ?_, ?_, World.keptBut_mono (fun x hx => ⟨hx, .inr (.inl (by simpa using hx))⟩) (hb.frame (· ∈ p ++ [])), fun h => by cases h⟩
  · rw [hfn, hrt]
    exact trodAll_cons_mk (shut_bool htb _) trodAll_mk0
  · rw [hfn]
    exact trodAll_stays hl hr hA (fun x hx => hb.same (hlt x (List.mem_append_left _ hx))) (fun x hx => by simpa using hlt x (List.mem_append_left _ hx))
  · rw [hfn, hsv]
    rfl

end
end Go.Proofs.YtemkpimngbbpkaaGreat

/- What comes in: a struct of numbers and truth values (structs in structs too), and a slice of such, read as plain data. -/
namespace Go.Proofs.YtemkpimngbbpkaaGreat
set_option linter.unusedVariables false
set_option linter.unusedSimpArgs false
set_option linter.unusedVariables false
open Go.ChangeShapes Go.WideShapes Go.ChangeAt Go.RowKit Go.Deep

inductive CK where
  | i64
  | bool
  | num (k : IntKind)
  | str
def CK.ok : CK → Value → Prop
  | .i64, v => ∃ z : Int, v = .int .i64 z ∧ (Lit.int .i64 z).wf = true
  | .num k, v => ∃ z : Int, v = .int k z ∧ (Lit.int k z).wf = true
  | .bool, v => ∃ b : Bool, v = .bool b
  | .str, v => ∃ b : ByteArray, v = .string b
def CKs : List CK → List Value → Prop
  | [], [] => True
  | k :: ks, v :: vs => k.ok v ∧ CKs ks vs
  | _, _ => False
theorem CKs.append : ∀ {ks ls : List CK} {vs us : List Value}, CKs ks vs → CKs ls us → CKs (ks ++ ls) (vs ++ us)
  | [], _, [], _, _, h => h
  | _ :: _, _, [], _, h, _ => h.elim
  | [], _, _ :: _, _, h, _ => h.elim
  | _ :: _, _, _ :: _, _, h, g => ⟨h.1, CKs.append h.2 g⟩
theorem CKs.len : ∀ {ks : List CK} {vs : List Value}, CKs ks vs → vs.length = ks.length
  | [], [], _ => rfl
  | _ :: _, [], h => h.elim
  | [], _ :: _, h => h.elim
  | _ :: _, _ :: _, h => by simp [CKs.len h.2]

theorem CKs.ints : ∀ {n : Nat} {vs : List Value}, CKs (List.replicate n .i64) vs → ∃ zs : List Int, zs.length = n ∧ vs = zs.map (Value.int .i64) ∧ ∀ z ∈ zs, (Lit.int .i64 z).wf = true
  | 0, [], _ => ⟨[], rfl, rfl, by simp⟩
  | 0, _ :: _, h => h.elim
  | _ + 1, [], h => h.elim
  | n + 1, v :: vs, h => by
    obtain ⟨⟨z, rfl, hz⟩, h2⟩ := h
    obtain ⟨zs, h3, rfl, h4⟩ := CKs.ints (n := n) h2
    exact ⟨z :: zs, by simp [h3], rfl, by simpa using ⟨hz, h4⟩⟩
theorem CKs.split : ∀ {ks ls : List CK} {vs : List Value}, CKs (ks ++ ls) vs → ∃ us ws, vs = us ++ ws ∧ CKs ks us ∧ CKs ls ws
  | [], _, vs, h => ⟨[], vs, rfl, trivial, h⟩
  | _ :: _, _, [], h => h.elim
  | _ :: _, _, v :: vs, h => by
    obtain ⟨us, ws, rfl, h1, h2⟩ := CKs.split h.2
    exact ⟨v :: us, ws, rfl, ⟨h.1, h1⟩, h2⟩

def tile (P : Program) (g : TypeId → Option (List CK)) : List Field → Nat → Option (List CK)
  | [], _ => some []
  | f :: fs, off =>
    if f.offset = off then
      match g f.type with
      | some ks => if P.cellsOf f.type = ks.length then (match tile P g fs (off + ks.length) with | some ls => some (ks ++ ls) | none => none) else none
      | none => none
    else none
def flatK (P : Program) : Nat → TypeId → Option (List CK)
  | 0, _ => none
  | n + 1, t =>
    match P.underlying t with
    | some (.int .i64) => some [.i64]
    | some (.int k) => some [.num k]
    | some .bool => some [.bool]
    | some .string => some [.str]
    | some (.struct fs) =>
      match tile P (flatK P n) fs.toList 0 with
      | some ks => if P.cellsOf t = ks.length then some ks else none
      | none => none
    | _ => none

section
variable {H : Type} {enc : TypeId × Value → H} {P : Program} {w : World} {base : Nat} {spare : Nat → Bool} {held : Bool}
theorem tile_ok (g : TypeId → Option (List CK)) (m : Nat) (cs : List Value) (hg : ∀ t ks, g t = some ks → ∀ vs x, DataW.trod enc P w base spare held m t vs = some x → CKs ks vs) :
    ∀ (fs : List Field) (off : Nat) (ks : List CK), tile P g fs off = some ks → (∀ f ∈ fs, ∃ x, DataW.trod enc P w base spare held m f.type ((cs.drop f.offset).take (P.cellsOf f.type)) = some x) → CKs ks ((cs.drop off).take ks.length)
  | [], off, ks, h, _ => by
    simp only [tile, Option.some.injEq] at h
    subst h; exact trivial
  | f :: fs, off, ks, h, hr => by
    simp only [tile] at h
    split at h
    · rename_i h0
      split at h
      · rename_i ks1 h1
        split at h
        · rename_i h2
          split at h
          · rename_i ls h3
            injection h with h
            subst h
            obtain ⟨x, hx⟩ := hr f (by simp)
            have a1 := hg _ _ h1 _ _ hx
            rw [h0, h2] at a1
            have a2 := tile_ok g m cs hg fs _ ls h3 (fun f' hf' => hr f' (by simp [hf']))
            have e : (cs.drop off).take (ks1 ++ ls).length = (cs.drop off).take ks1.length ++ (cs.drop (off + ks1.length)).take ls.length := by
              rw [List.length_append, List.take_add, List.drop_drop]
            rw [e]
            exact CKs.append a1 a2
          · cases h
        · cases h
      · cases h
    · cases h
theorem flat_trod : ∀ (n : Nat) (t : TypeId) (ks : List CK), flatK P n t = some ks → ∀ m vs x, DataW.trod enc P w base spare held m t vs = some x → CKs ks vs
  | 0, _, _, h => by cases h
  | n + 1, t, ks, h => by
    intro m vs x hx
    unfold flatK at h
    split at h
    · rename_i ht
      injection h with h
      subst h
      obtain ⟨z, rfl, _, hw⟩ := DataW.trod_int ht hx
      exact ⟨⟨z, rfl, hw⟩, trivial⟩
    · rename_i ht
      injection h with h
      subst h
      obtain ⟨z, rfl, _, hw⟩ := DataW.trod_int ht hx
      exact ⟨⟨z, rfl, hw⟩, trivial⟩
    · rename_i ht
      injection h with h
      subst h
      obtain ⟨z, rfl, _⟩ := DataW.trod_bool ht hx
      exact ⟨⟨z, rfl⟩, trivial⟩
    · rename_i ht
      injection h with h
      subst h
      obtain ⟨z, rfl, _⟩ := DataW.trod_string ht hx
      exact ⟨⟨z, rfl⟩, trivial⟩
    · rename_i fs ht
      split at h
      · rename_i ks1 h1
        split at h
        · rename_i h2
          injection h with h
          subst h
          obtain ⟨xs, m', _, _, hl, hxl, hf⟩ := DataW.trod_struct ht hx
          have := tile_ok (flatK P n) m' vs (fun t ks hk vs x hx => flat_trod n t ks hk m' vs x hx) fs.toList 0 ks1 h1 (fun f hf' => by
            obtain ⟨i, hi, he⟩ := List.getElem_of_mem hf'
            have hi' : i < fs.size := by simpa using hi
            have h3 := hf i f (by rw [Array.getElem?_eq_getElem hi']; rw [← he]; rfl)
            exact ⟨xs[i], h3.trans (List.getElem?_eq_getElem (by omega))⟩)
          rw [List.drop_zero, ← h2, ← hl, List.take_length] at this
          exact this
        · cases h
      · cases h
    · cases h

theorem list_of {α : Type} {q : Nat → α → Prop} : ∀ (n : Nat), (∀ i, i < n → ∃ x, q i x) → ∃ l : List α, l.length = n ∧ ∀ (i : Nat) (h : i < l.length), q i l[i]
  | 0, _ => ⟨[], rfl, fun i h => by simp at h⟩
  | n + 1, h => by
    obtain ⟨l, hl, hq⟩ := list_of n (fun i hi => h i (by omega))
    obtain ⟨x, hx⟩ := h n (by omega)
    refine ⟨l ++ [x], by simp [hl], fun i hi => ?_⟩
    by_cases hin : i < l.length
    · rw [List.getElem_append_left hin]; exact hq i hin
    · have : i = n := by simp [hl] at hi; omega
      subst this
      subst hl
      simpa using hx

/-- A slice of elements. -/
theorem open_list_at {α : Type} (E : Elt α) (wf : α → Prop) {t e : TypeId} {ks : List CK} {n : Nat} {v : Value} {d : DataW H} {p : List MemPlace} (ht : P.underlying t = some (.slice e)) (hk : flatK P n e = some ks) (hC : P.cellsOf e = E.size)
    (dec : ∀ cs, CKs ks cs → ∃ x : α, cs = E.cells x ∧ wf x) (hone : v.cells.toList = [v]) (h : DataW.Trod enc P w base spare held t v d p) :
    ∃ (A : Option Addr) (c : Nat) (l : List α), v = .slice A l.length c ∧ Rd E w A l ∧ l.length ≤ c ∧ c ≤ maxLen ∧ ∀ x ∈ l, wf x := by
  obtain ⟨fuel, hf⟩ := h
  rcases open_slice ht hf with ⟨h1, _⟩ | ⟨a, len, cap, m, n', D, Pl, h1, hb, hl, hm, hmm, _, hi⟩
  · rw [hone] at h1
    injection h1 with h1
    subst h1
    exact ⟨none, 0, [], rfl, Rd.nil, Nat.le_refl _, Nat.zero_le _, by simp⟩
  · rw [hone] at h1
    injection h1 with h1
    subst h1
    have hlm : len ≤ m := by rw [hmm]; split <;> omega
    obtain ⟨l, hll, hq⟩ := list_of (q := fun i (x : α) => wf x ∧ w.cells? base (a.add (i * P.cellsOf e)) (P.cellsOf e) = some (E.cells x)) len (fun i hil => by
      obtain ⟨cs', hc, ht'⟩ := hi i (by omega)
      obtain ⟨x, hx, hwf⟩ := dec cs' (flat_trod n e ks hk _ _ _ ht')
      exact ⟨x, hwf, by rw [hc, hx]⟩)
    subst hll
    refine ⟨some a, cap, l, rfl, ⟨E.all_len l, fun hn => ⟨a, rfl, ?_, ?_⟩⟩, hl, hm, ?_⟩
    · have h0 := (hq 0 hn).2
      obtain ⟨_, hcl, hat⟩ := World.cells?_some h0
      have h2 := hat 0 (by rw [hC]; exact E.pos)
      have h3 : (E.cells l[0])[0]? = some ((E.cells l[0])[0]'(by rw [E.len]; exact E.pos)) := List.getElem?_eq_getElem _
      rw [h3] at h2
      have := cell_lt h2
      simpa [block_of_add] using this
    · intro j u hu
      have hpos := E.pos
      have hj : j < (E.all l).length := (List.getElem?_eq_some_iff.1 hu).1
      rw [E.all_len] at hj
      have hk1 : j / E.size < l.length := Nat.div_lt_of_lt_mul (by rw [Nat.mul_comm]; exact hj)
      have hr : j % E.size < E.size := Nat.mod_lt _ hpos
      have e1 : j / E.size * E.size + j % E.size = j := by rw [Nat.mul_comm]; exact Nat.div_add_mod j E.size
      have h2 := E.all_at l (j / E.size) hk1 (j % E.size) hr
      rw [e1, hu] at h2
      obtain ⟨_, hcl, hat⟩ := World.cells?_some (hq _ hk1).2
      have h3 := hat (j % E.size) (by rw [hC]; exact hr)
      rw [← h2, hC, Go.Deep.add_add, e1] at h3
      exact h3
    · intro x hx
      obtain ⟨i, hi', he⟩ := List.getElem_of_mem hx
      rw [← he]
      exact (hq i hi').1
theorem open_list {α : Type} (E : Elt α) (wf : α → Prop) {r : Reach} {b0 : Nat} {t e : TypeId} {ks : List CK} {n : Nat} {v : Value} {d : DataW H} {p : List MemPlace} (ht : P.underlying t = some (.slice e)) (hk : flatK P n e = some ks) (hC : P.cellsOf e = E.size)
    (dec : ∀ cs, CKs ks cs → ∃ x : α, cs = E.cells x ∧ wf x) (hv : Value.okWide P w r b0 t v) (h : DataW.Trod enc P w base spare held t v d p) :
    ∃ (A : Option Addr) (c : Nat) (l : List α), v = .slice A l.length c ∧ Rd E w A l ∧ l.length ≤ c ∧ c ≤ maxLen ∧ ∀ x ∈ l, wf x :=
  open_list_at E wf ht hk hC dec (by obtain ⟨a, l, c, rfl⟩ := okWide_slice ht hv; rfl) h
/-- A cell that holds a slice. -/
theorem open_list_cell {α : Type} (E : Elt α) (wf : α → Prop) {t e : TypeId} {ks : List CK} {n m : Nat} {v : Value} {x : DataW H × List MemPlace} (ht : P.underlying t = some (.slice e)) (hk : flatK P n e = some ks) (hC : P.cellsOf e = E.size)
    (dec : ∀ cs, CKs ks cs → ∃ x : α, cs = E.cells x ∧ wf x) (h : DataW.trod enc P w base spare held m t [v] = some x) :
    ∃ (A : Option Addr) (c : Nat) (l : List α), v = .slice A l.length c ∧ Rd E w A l ∧ l.length ≤ c ∧ c ≤ maxLen ∧ ∀ x ∈ l, wf x := by
  have hone : v.cells.toList = [v] := by
    rcases open_slice ht h with ⟨h1, _⟩ | ⟨a, len, cap, m, n', D, Pl, h1, _⟩
    · injection h1 with h1; subst h1; rfl
    · injection h1 with h1; subst h1; rfl
  exact open_list_at E wf ht hk hC dec hone ⟨m, by rw [hone]; exact h⟩
end
end Go.Proofs.YtemkpimngbbpkaaGreat

namespace Go.Proofs.YtemkpimngbbpkaaGreat
set_option linter.unusedVariables false
set_option linter.unusedSimpArgs false
set_option linter.unusedVariables false
open Go.RowKit

def inB (n lo hi : Int) : Bool := decide (lo ≤ n ∧ n ≤ hi)

structure Con where
  src : Int
  dst : Int
  st : Int
  en : Int
  rate : Int
  rng : Int
  loss : Int

def Con.cells (c : Con) : Array Value := #[.int .i64 c.src, .int .i64 c.dst, .int .i64 c.st, .int .i64 c.en, .int .i64 c.rate, .int .i64 c.rng, .int .i64 c.loss]
def Con.val (c : Con) : Value := .agg #[.int .i64 c.src, .int .i64 c.dst, .int .i64 c.st, .int .i64 c.en, .int .i64 c.rate, .int .i64 c.rng, .int .i64 c.loss]

def Con.inr (c : Con) : Bool := inB c.src 0 15 && inB c.dst 0 15 && inB c.rate 1 1000 && inB c.rng 1 1048576 && inB c.loss 0 16
def Con.tim (c : Con) : Bool := decide (0 ≤ c.st ∧ c.st < c.en ∧ c.en ≤ 1099511627776 - 2 * c.rng)
/-- api.Errno of contact.Check: 0 OK, 1 ErrArgument, 2 ErrRange. -/
def Con.check (c : Con) : Int := if c.inr = false then 2 else if c.src = c.dst then 1 else if c.tim = false then 2 else 0

structure Con.Ok (c : Con) : Prop where
  src0 : 0 ≤ c.src
  src1 : c.src ≤ 15
  dst0 : 0 ≤ c.dst
  dst1 : c.dst ≤ 15
  rate0 : 1 ≤ c.rate
  rate1 : c.rate ≤ 1000
  rng0 : 1 ≤ c.rng
  rng1 : c.rng ≤ 1048576
  loss0 : 0 ≤ c.loss
  loss1 : c.loss ≤ 16
  ne : c.src ≠ c.dst
  st0 : 0 ≤ c.st
  st1 : c.st < c.en
  en1 : c.en ≤ 1099511627776 - 2 * c.rng

theorem Con.check_iff (c : Con) : c.check = 0 ↔ c.Ok := by
  unfold Con.check
  constructor
  · intro h
    split at h
    · omega
    · rename_i h1
      split at h
      · omega
      · rename_i h2
        split at h
        · omega
        · rename_i h3
          simp only [Bool.not_eq_false] at h1 h3
          simp only [Con.inr, Con.tim, inB, Bool.and_eq_true, decide_eq_true_eq] at h1 h3
          exact ⟨h1.1.1.1.1.1, h1.1.1.1.1.2, h1.1.1.1.2.1, h1.1.1.1.2.2, h1.1.1.2.1, h1.1.1.2.2, h1.1.2.1, h1.1.2.2, h1.2.1, h1.2.2, h2, h3.1, h3.2.1, h3.2.2⟩
  · rintro ⟨h1, h2, h3, h4, h5, h6, h7, h8, h9, h10, h11, h12, h13, h14⟩
    have e1 : c.inr = true := by simp only [Con.inr, inB, Bool.and_eq_true, decide_eq_true_eq]; omega
    have e2 : c.tim = true := by simp only [Con.tim, decide_eq_true_eq]; omega
    simp [e1, e2, h11]

def Con.ticks (c : Con) (n : Int) : Int := (n + 8 + c.rate - 1) / c.rate
def Con.pass (c : Con) (size : Int) : Int := size / 16 * c.ticks 16 + if size % 16 > 0 then c.ticks (size % 16) else 0
def Con.dur (c : Con) (size : Int) : Int := c.pass size + c.loss * (2 * c.rng + 1 + c.ticks 16)

theorem Con.ticks_bd {c : Con} {n : Int} (h : 1 ≤ c.rate) (hn : 0 ≤ n) : 1 ≤ c.ticks n ∧ c.ticks n ≤ n + 8 := by
  unfold Con.ticks
  constructor
  · exact (Int.le_ediv_iff_mul_le (by omega)).2 (by omega)
  · have h1 : n + 8 + c.rate - 1 ≤ (n + 8) * c.rate := by
      have h2 : (n + 8 - 1) * 1 ≤ (n + 8 - 1) * c.rate := Int.mul_le_mul_of_nonneg_left h (by omega)
      have h3 : (n + 8 - 1) * c.rate = (n + 8) * c.rate - c.rate := by rw [Int.sub_mul, Int.one_mul]
      omega
    exact Int.le_of_lt_add_one (Int.ediv_lt_of_lt_mul (by omega) (by rw [Int.add_mul]; omega))

theorem Con.pass_bd {c : Con} {n : Int} (h : 1 ≤ c.rate) (hn : 1 ≤ n) (hn2 : n ≤ 65536) : 1 ≤ c.pass n ∧ c.pass n ≤ 100000 := by
  unfold Con.pass
  have t := Con.ticks_bd (c := c) (n := 16) h (by omega)
  have q0 : 0 ≤ n / 16 := by omega
  have q1 : n / 16 ≤ 4096 := by omega
  have m := mul_le_of q0 q1 (by omega : 0 ≤ c.ticks 16) (by omega : c.ticks 16 ≤ 24)
  split
  · have t2 := Con.ticks_bd (c := c) (n := n % 16) h (by omega)
    omega
  · have q2 : 1 ≤ n / 16 := by omega
    have m2 : 1 * 1 ≤ n / 16 * c.ticks 16 := Int.mul_le_mul q2 t.1 (by omega) (by omega)
    omega

theorem Con.extra_bd {c : Con} (h1 : 1 ≤ c.rate) (h7 : 1 ≤ c.rng) (h8 : c.rng ≤ 1048576) (h9 : 0 ≤ c.loss) (h10 : c.loss ≤ 16) :
    0 ≤ c.loss * (2 * c.rng + 1 + c.ticks 16) ∧ c.loss * (2 * c.rng + 1 + c.ticks 16) ≤ 40000000 := by
  have t := Con.ticks_bd (c := c) (n := 16) h1 (by omega)
  have m := mul_le_of h9 h10 (by omega : 0 ≤ 2 * c.rng + 1 + c.ticks 16) (by omega : 2 * c.rng + 1 + c.ticks 16 ≤ 2097200)
  omega

theorem Con.dur_bd {c : Con} {n : Int} (h : c.Ok) (hn : 1 ≤ n) (hn2 : n ≤ 65536) : 1 ≤ c.dur n ∧ c.dur n ≤ 41000000 := by
  unfold Con.dur
  have p := Con.pass_bd (c := c) h.rate0 hn hn2
  have e := Con.extra_bd h.rate0 h.rng0 h.rng1 h.loss0 h.loss1
  omega

/-- why a contact or a size is not valid -/
def Con.arg (c : Con) (size : Int) : Int := if c.check = 0 then (if inB size 1 65536 then 0 else 2) else 1
theorem Con.arg_ok {c : Con} {size : Int} : c.arg size = 0 ↔ c.Ok ∧ 1 ≤ size ∧ size ≤ 65536 := by
  unfold Con.arg
  rw [← Con.check_iff]
  by_cases h : c.check = 0
  · simp only [h, inB, if_true]
    by_cases h2 : 1 ≤ size ∧ size ≤ 65536 <;> simp [h2]
  · simp [h]
def Con.fitsB (c : Con) (b size : Int) : Bool := decide (c.st ≤ b ∧ b ≤ c.en - c.dur size)
def Con.beg (c : Con) (t : Int) : Int := if t < c.st then c.st else t
def Con.durR (c : Con) (n : Int) : Int := if c.arg n = 0 then c.dur n else 0
def Con.fitsR (c : Con) (b n : Int) : Bool := decide (c.arg n = 0) && c.fitsB b n
def Con.overlapB (a b : Con) : Bool := decide (a.check = 0) && decide (b.check = 0) && decide (a.src = b.src) && decide (a.dst = b.dst) && decide (max a.st b.st < min a.en b.en)
theorem Con.ticks_mono {c : Con} {a b : Int} (h : 1 ≤ c.rate) (hab : a ≤ b) : c.ticks a ≤ c.ticks b := by
  unfold Con.ticks
  exact Int.ediv_le_ediv (by omega) (by omega)
theorem Con.pass_succ {c : Con} {n : Int} (h : 1 ≤ c.rate) (hn : 0 ≤ n) : c.pass n ≤ c.pass (n + 1) := by
  unfold Con.pass
  have t0 := Con.ticks_bd (c := c) (n := (n + 1) % 16) h (by omega)
  have t1 := Con.ticks_mono (c := c) (a := n % 16) (b := (n + 1) % 16) h
  have t2 := Con.ticks_mono (c := c) (a := n % 16) (b := 16) h (by omega)
  by_cases e : n % 16 = 15
  · have e1 : (n + 1) % 16 = 0 := by omega
    have e2 : (n + 1) / 16 = n / 16 + 1 := by omega
    rw [e1, e2, if_pos (by omega), if_neg (by omega), Int.add_mul, Int.one_mul]
    omega
  · have e2 : (n + 1) / 16 = n / 16 := by omega
    have t3 := t1 (by omega)
    rw [e2, if_pos (by omega : (n + 1) % 16 > 0)]
    split <;> omega
theorem Con.pass_mono {c : Con} {a b : Int} (h : 1 ≤ c.rate) (ha : 0 ≤ a) (hab : a ≤ b) : c.pass a ≤ c.pass b := by
  obtain ⟨k, rfl⟩ : ∃ k : Nat, b = a + k := ⟨(b - a).toNat, by omega⟩
  clear hab
  induction k with
  | zero => simp
  | succ k ih =>
    have := Con.pass_succ (c := c) (n := a + k) h (by omega)
    have e : a + ((k + 1 : Nat) : Int) = a + k + 1 := by omega
    rw [e]
    omega
theorem Con.dur_mono {c : Con} {a b : Int} (h : 1 ≤ c.rate) (ha : 0 ≤ a) (hab : a ≤ b) : c.dur a ≤ c.dur b := by
  have := Con.pass_mono (c := c) h ha hab
  unfold Con.dur
  omega

end Go.Proofs.YtemkpimngbbpkaaGreat

namespace Go.Proofs.YtemkpimngbbpkaaGreat
set_option linter.unusedVariables false
set_option linter.unusedSimpArgs false
set_option linter.unusedVariables false
open Go.RowKit

def ECon : Elt Con := ⟨fun c => c.cells.toList, 7, fun _ => rfl, by omega, fun x u hu => by simp [Con.cells] at hu; rcases hu with h | h | h | h | h | h | h <;> subst h <;> rfl⟩
theorem Rd.con {w : World} {A : Option Addr} {l : List Con} (h : Rd ECon w A l) {k : Nat} (hk : k < l.length) : ∃ b o, A = some ⟨b, o, none⟩ ∧ b < w.heap.size ∧
    w.cell? ⟨b, o + k * 7, none⟩ = some (.int .i64 l[k].src) ∧ w.cell? ⟨b, o + k * 7 + 1, none⟩ = some (.int .i64 l[k].dst) ∧ w.cell? ⟨b, o + k * 7 + 2, none⟩ = some (.int .i64 l[k].st) ∧ w.cell? ⟨b, o + k * 7 + 3, none⟩ = some (.int .i64 l[k].en) ∧
    w.cell? ⟨b, o + k * 7 + 4, none⟩ = some (.int .i64 l[k].rate) ∧ w.cell? ⟨b, o + k * 7 + 5, none⟩ = some (.int .i64 l[k].rng) ∧ w.cell? ⟨b, o + k * 7 + 6, none⟩ = some (.int .i64 l[k].loss) := by
  obtain ⟨b, o, rfl, hb, hc⟩ := h.at hk
  exact ⟨b, o, rfl, hb, hc 0 _ rfl, hc 1 _ rfl, hc 2 _ rfl, hc 3 _ rfl, hc 4 _ rfl, hc 5 _ rfl, hc 6 _ rfl⟩

structure Pln where
  quo : List Int
  cons : List Con
def Pln.val (Aq : Option Addr) (cq : Nat) (Ac : Option Addr) (cc : Nat) (p : Pln) : Value := .agg #[.slice Aq p.quo.length cq, .slice Ac p.cons.length cc]
/-- The plan lies in memory. -/
structure PlnRd (w : World) (Aq : Option Addr) (cq : Nat) (Ac : Option Addr) (cc : Nat) (p : Pln) : Prop where
  q : Rd EInt w Aq p.quo
  c : Rd ECon w Ac p.cons
  qm : p.quo.length ≤ 1000000
  cm : p.cons.length ≤ 1000000
  qc : p.quo.length ≤ cq
  cc : p.cons.length ≤ cc
theorem PlnRd.ext {w w' : World} {Aq : Option Addr} {cq : Nat} {Ac : Option Addr} {cc : Nat} {p : Pln} (h : PlnRd w Aq cq Ac cc p) (hb : Ext w w') : PlnRd w' Aq cq Ac cc p :=
  ⟨h.q.ext hb, h.c.ext hb, h.qm, h.cm, h.qc, h.cc⟩

def quoB (q : Int) : Bool := decide (q < 0) || decide (1073741824 < q)
def Pln.chkC (n : Int) : List Con → List Con → Int
  | _, [] => 0
  | pre, c :: l => if c.check = 0 then (if n ≤ c.src ∨ n ≤ c.dst then 2 else if pre.any (fun d => c.overlapB d) then 14 else chkC n (pre ++ [c]) l) else c.check
def Pln.lim (p : Pln) : Bool := decide (p.quo.length < 1) || (decide (16 < p.quo.length) || decide (64 < p.cons.length))
/-- api.Errno of plan.Check: 0 OK, 1 ErrArgument, 2 ErrRange, 4 ErrLimit, 14 ErrOverlap. -/
def Pln.chk (p : Pln) : Int := if p.lim then 4 else if p.quo.any quoB then 2 else Pln.chkC p.quo.length [] p.cons

theorem Pln.chkC_step {n : Int} {l : List Con} {k : Nat} {c : Con} (h : k < l.length) (hc : l[k] = c) :
    Pln.chkC n (l.take k) (l.drop k) = if c.check = 0 then (if n ≤ c.src ∨ n ≤ c.dst then 2 else if (l.take k).any (fun d => c.overlapB d) then 14 else Pln.chkC n (l.take (k + 1)) (l.drop (k + 1))) else c.check := by
  rw [List.drop_eq_getElem_cons h, hc, take_snoc h hc]
  rfl
theorem Pln.chkC_mem {n : Int} : ∀ {pre l : List Con}, Pln.chkC n pre l = 0 → ∀ c ∈ l, c.Ok ∧ c.src < n ∧ c.dst < n
  | _, [], _, c, hc => by simp at hc
  | pre, x :: l, h, c, hc => by
    simp only [Pln.chkC] at h
    split at h
    · rename_i h0
      split at h
      · cases h
      · rename_i h1
        split at h
        · cases h
        · rcases List.mem_cons.1 hc with rfl | hc
          · exact ⟨(Con.check_iff c).1 h0, by omega, by omega⟩
          · exact Pln.chkC_mem h c hc
    · rename_i h0; exact absurd h h0
structure Pln.Ok (p : Pln) : Prop where
  n1 : 1 ≤ p.quo.length
  n16 : p.quo.length ≤ 16
  m64 : p.cons.length ≤ 64
  con : ∀ c ∈ p.cons, c.Ok ∧ c.src < p.quo.length ∧ c.dst < p.quo.length
theorem Pln.ok_of {p : Pln} (h : p.chk = 0) : p.Ok := by
  unfold Pln.chk at h
  split at h
  · cases h
  · rename_i h0
    simp only [Pln.lim, Bool.or_eq_true, decide_eq_true_eq] at h0
    split at h
    · cases h
    · exact ⟨by omega, by omega, by omega, Pln.chkC_mem h⟩

end Go.Proofs.YtemkpimngbbpkaaGreat

/- Requests and hops as plain data. -/
namespace Go.Proofs.YtemkpimngbbpkaaGreat
set_option linter.unusedVariables false
set_option linter.unusedSimpArgs false
set_option linter.unusedVariables false
open Go.RowKit

structure Req where
  src : Int
  dst : Int
  size : Int
  ready : Int
  dead : Int
  prio : Int
  cust : Bool
def Req.cells (q : Req) : Array Value := #[.int .i64 q.src, .int .i64 q.dst, .int .i64 q.size, .int .i64 q.ready, .int .i64 q.dead, .int .i64 q.prio, .bool q.cust]
def Req.val (q : Req) : Value := .agg #[.int .i64 q.src, .int .i64 q.dst, .int .i64 q.size, .int .i64 q.ready, .int .i64 q.dead, .int .i64 q.prio, .bool q.cust]
/-- A request that is valid for a plan with n nodes. -/
def Req.okB (q : Req) (n : Nat) : Bool :=
  decide (0 ≤ q.src ∧ q.src < n ∧ 0 ≤ q.dst ∧ q.dst < n ∧ q.src ≠ q.dst ∧ 1 ≤ q.size ∧ q.size ≤ 65536 ∧ 0 ≤ q.ready ∧ q.ready ≤ q.dead ∧ q.dead ≤ 1099511627776 ∧ 0 ≤ q.prio ∧ q.prio ≤ 2)

structure Hp where
  con : Int
  beg : Int
  en : Int
  arr : Int
def Hp.cells (h : Hp) : List Value := [.int .i64 h.con, .int .i64 h.beg, .int .i64 h.en, .int .i64 h.arr]
def Hp.val (h : Hp) : Value := .agg #[.int .i64 h.con, .int .i64 h.beg, .int .i64 h.en, .int .i64 h.arr]
def EHp : Elt Hp := ⟨Hp.cells, 4, fun _ => rfl, by omega, fun x u hu => by simp [Hp.cells] at hu; rcases hu with h | h | h | h <;> subst h <;> rfl⟩
theorem Rd.hp {w : World} {A : Option Addr} {l : List Hp} (h : Rd EHp w A l) {k : Nat} (hk : k < l.length) : ∃ b o, A = some ⟨b, o, none⟩ ∧ b < w.heap.size ∧
    w.cell? ⟨b, o + k * 4, none⟩ = some (.int .i64 l[k].con) ∧ w.cell? ⟨b, o + k * 4 + 1, none⟩ = some (.int .i64 l[k].beg) ∧ w.cell? ⟨b, o + k * 4 + 2, none⟩ = some (.int .i64 l[k].en) ∧ w.cell? ⟨b, o + k * 4 + 3, none⟩ = some (.int .i64 l[k].arr) := by
  obtain ⟨b, o, rfl, hb, hc⟩ := h.at hk
  exact ⟨b, o, rfl, hb, hc 0 _ rfl, hc 1 _ rfl, hc 2 _ rfl, hc 3 _ rfl⟩
end Go.Proofs.YtemkpimngbbpkaaGreat

/- Layer 25 (latest): the latest times as plain data, and the plain laws. -/
namespace Go.Proofs.YtemkpimngbbpkaaGreat
set_option linter.unusedVariables false
set_option linter.unusedSimpArgs false
set_option linter.unusedVariables false
open Go.RowKit

/-- The latest begin of a transmission that arrives by a time; -1 if there is none. -/
def lbeg (c : Con) (t size : Int) : Int :=
  if t = -1 then -1 else if min c.en (t - c.rng) - c.dur size < c.st then -1 else min c.en (t - c.rng) - c.dur size
theorem lbeg_cases (c : Con) (t size : Int) : lbeg c t size = -1 ∨ (t ≠ -1 ∧ c.st ≤ lbeg c t size ∧ lbeg c t size ≤ c.en - c.dur size ∧ lbeg c t size + c.dur size + c.rng ≤ t ∧ lbeg c t size = min c.en (t - c.rng) - c.dur size) := by
  unfold lbeg
  split
  · exact .inl rfl
  · split
    · exact .inl rfl
    · right; omega
theorem lbeg_ge {c : Con} {t size : Int} (h : 0 ≤ c.st) : -1 ≤ lbeg c t size := by
  rcases lbeg_cases c t size with h1 | ⟨_, h1, _⟩ <;> omega
theorem lbeg_most {c : Con} {t size b : Int} (ht : t ≠ -1) (h1 : c.st ≤ b) (h2 : b ≤ c.en - c.dur size) (h3 : b + c.dur size + c.rng ≤ t) : b ≤ lbeg c t size := by
  unfold lbeg
  rw [if_neg ht, if_neg (by omega)]
  omega
theorem lbeg_mono {c : Con} {s t size size' : Int} (h0 : 0 ≤ c.st) (hs : -1 ≤ s) (hst : s ≤ t) (hd : c.dur size' ≤ c.dur size) : lbeg c s size ≤ lbeg c t size' := by
  rcases lbeg_cases c s size with h1 | ⟨h1, h2, h3, h4, h5⟩
  · rw [h1]; exact lbeg_ge h0
  · exact lbeg_most (by omega) h2 (by omega) (by omega)

def lstep (dest size : Int) (s : Bool × List Int) (c : Con) : Bool × List Int :=
  if c.src ≠ dest ∧ gi s.2 c.src < lbeg c (gi s.2 c.dst) size then (true, s.2.set c.src.toNat (lbeg c (gi s.2 c.dst) size)) else s
def lpass (dest size : Int) (cons : List Con) (m : List Int) : Bool × List Int := cons.foldl (lstep dest size) (false, m)
def liter (dest size : Int) (cons : List Con) : Nat → List Int → List Int
  | 0, m => m
  | n + 1, m => if (lpass dest size cons m).1 then liter dest size cons n (lpass dest size cons m).2 else m

/-- How far the times can still grow. -/
def mu (D : Int) (m : List Int) : Nat := (m.map fun x => (D - x).toNat).sum
theorem mu_set : ∀ {D : Int} {m : List Int} {k : Nat} {v : Int}, (h : k < m.length) → m[k] < v → v ≤ D → mu D (m.set k v) < mu D m
  | D, x :: m, 0, v, _, h1, h2 => by
    simp only [mu, List.set_cons_zero, List.map_cons, List.sum_cons, List.getElem_cons_zero] at *
    omega
  | D, x :: m, k + 1, v, h, h1, h2 => by
    have ih := mu_set (D := D) (m := m) (k := k) (v := v) (by simpa using h) (by simpa using h1) h2
    simp only [mu, List.set_cons_succ, List.map_cons, List.sum_cons] at *
    omega

/-- Contacts of a valid plan of n nodes. -/
def Cons (n : Nat) (cons : List Con) : Prop := ∀ c ∈ cons, c.Ok ∧ c.src < n ∧ c.dst < n
/-- Times between passes. -/
structure LInv (n : Nat) (D dest : Int) (m : List Int) : Prop where
  len : m.length = n
  lo : ∀ x ∈ m, -1 ≤ x
  hi : ∀ x ∈ m, x ≤ D
  dst : gi m dest = D

theorem lstep_inv {n : Nat} {D dest size : Int} {s : Bool × List Int} {c : Con} (hc : c.Ok ∧ c.src < n ∧ c.dst < n) (hsz : 1 ≤ size ∧ size ≤ 65536) (hd : 0 ≤ dest) (h : LInv n D dest s.2) :
    LInv n D dest (lstep dest size s c).2 ∧ mu D (lstep dest size s c).2 ≤ mu D s.2 ∧ ((lstep dest size s c).1 = true → s.1 = true ∨ mu D (lstep dest size s c).2 < mu D s.2) ∧ ((lstep dest size s c).1 = false → lstep dest size s c = s) ∧ (s.1 = true → (lstep dest size s c).1 = true) := by
  have d := Con.dur_bd hc.1 hsz.1 hsz.2
  have hs0 := hc.1.src0
  have hd0 := hc.1.dst0
  have hr := hc.1.rng0
  have hst := hc.1.st0
  unfold lstep
  split
  · rename_i hh
    have hk : c.src.toNat < s.2.length := by rw [h.len]; omega
    have hdm := h.hi _ (gi_mem (i := c.dst) (by rw [h.len]; omega))
    have hle : lbeg c (gi s.2 c.dst) size ≤ D := by
      rcases lbeg_cases c (gi s.2 c.dst) size with h1 | ⟨_, h2, h3, h4, h5⟩
      · have := h.lo _ (gi_mem (m := s.2) (i := c.dst) (by rw [h.len]; omega)); omega
      · omega
    have hmu := mu_set (D := D) hk (by rw [← gi_of hs0 hk]; exact hh.2) hle
    refine ⟨⟨by simpa using h.len, ?_, ?_, ?_⟩, Nat.le_of_lt hmu, fun _ => .inr hmu, fun h => (by cases h), fun _ => rfl⟩
    · intro x hx
      rcases List.mem_or_eq_of_mem_set hx with hx | rfl
      · exact h.lo x hx
      · exact lbeg_ge hst
    · intro x hx
      rcases List.mem_or_eq_of_mem_set hx with hx | rfl
      · exact h.hi x hx
      · exact hle
    · rw [gi_set hk, if_neg (by omega)]; exact h.dst
  · exact ⟨h, Nat.le_refl _, fun h => .inl h, fun _ => rfl, id⟩

theorem lfold_inv {n : Nat} {D dest size : Int} (hsz : 1 ≤ size ∧ size ≤ 65536) (hd : 0 ≤ dest) : ∀ (cons : List Con) (s : Bool × List Int), Cons n cons → LInv n D dest s.2 →
    LInv n D dest (cons.foldl (lstep dest size) s).2 ∧ mu D (cons.foldl (lstep dest size) s).2 ≤ mu D s.2 ∧ ((cons.foldl (lstep dest size) s).1 = true → s.1 = true ∨ mu D (cons.foldl (lstep dest size) s).2 < mu D s.2) ∧ ((cons.foldl (lstep dest size) s).1 = false → cons.foldl (lstep dest size) s = s) ∧ (s.1 = true → (cons.foldl (lstep dest size) s).1 = true)
  | [], s, _, h => ⟨h, Nat.le_refl _, fun h => .inl h, fun _ => rfl, id⟩
  | c :: cons, s, hc, h => by
    have h1 := lstep_inv (hc c (by simp)) hsz hd h
    have h2 := lfold_inv hsz hd cons (lstep dest size s c) (fun x hx => hc x (by simp [hx])) h1.1
    simp only [List.foldl_cons]
    refine ⟨h2.1, Nat.le_trans h2.2.1 h1.2.1, fun e => ?_, fun e => ?_, fun e => h2.2.2.2.2 (h1.2.2.2.2 e)⟩
    · rcases h2.2.2.1 e with e1 | e1
      · rcases h1.2.2.1 e1 with e2 | e2
        · exact .inl e2
        · exact .inr (Nat.lt_of_le_of_lt h2.2.1 e2)
      · exact .inr (Nat.lt_of_lt_of_le e1 h1.2.1)
    · have e1 := h2.2.2.2.1 e
      rw [e1] at e
      rw [e1, h1.2.2.2.1 e]
theorem lpass_inv {n : Nat} {D dest size : Int} {cons : List Con} {m : List Int} (hsz : 1 ≤ size ∧ size ≤ 65536) (hd : 0 ≤ dest) (hc : Cons n cons) (h : LInv n D dest m) :
    LInv n D dest (lpass dest size cons m).2 ∧ ((lpass dest size cons m).1 = true → mu D (lpass dest size cons m).2 < mu D m) ∧ ((lpass dest size cons m).1 = false → (lpass dest size cons m).2 = m) := by
  have h1 := lfold_inv hsz hd cons (false, m) hc h
  refine ⟨h1.1, fun e => ?_, fun e => ?_⟩
  · rcases h1.2.2.1 e with h2 | h2
    · cases h2
    · exact h2
  · have := h1.2.2.2.1 e
    unfold lpass; rw [this]

/-- No contact improves anything. -/
def LFix (dest size : Int) (cons : List Con) (m : List Int) : Prop := ∀ c ∈ cons, c.src ≠ dest → lbeg c (gi m c.dst) size ≤ gi m c.src
theorem lfold_stop {n : Nat} {D dest size : Int} (hsz : 1 ≤ size ∧ size ≤ 65536) (hd : 0 ≤ dest) : ∀ (cons : List Con) (m : List Int), Cons n cons → LInv n D dest m → (cons.foldl (lstep dest size) (false, m)).1 = false → LFix dest size cons m
  | [], _, _, _, _ => fun c hc => by simp at hc
  | c :: cons, m, hc, h, e => by
    simp only [List.foldl_cons] at e
    have h1 := lstep_inv (s := (false, m)) (hc c (by simp)) hsz hd h
    have h2 := lfold_inv hsz hd cons (lstep dest size (false, m) c) (fun x hx => hc x (by simp [hx])) h1.1
    have e0 : (lstep dest size (false, m) c).1 = false := by
      cases hx : (lstep dest size (false, m) c).1
      · rfl
      · have := h2.2.2.2.2 hx
        rw [e] at this; cases this
    have e1 := h1.2.2.2.1 e0
    rw [e1] at e
    have ih := lfold_stop hsz hd cons m (fun x hx => hc x (by simp [hx])) h e
    intro x hx hne
    rcases List.mem_cons.1 hx with rfl | hx
    · unfold lstep at e0
      split at e0
      · cases e0
      · rename_i hh
        simp only at hh
        omega
    · exact ih x hx hne

theorem liter_inv {n : Nat} {D dest size : Int} {cons : List Con} (hsz : 1 ≤ size ∧ size ≤ 65536) (hd : 0 ≤ dest) (hc : Cons n cons) : ∀ (k : Nat) (m : List Int), LInv n D dest m → mu D m ≤ k →
    LInv n D dest (liter dest size cons k m) ∧ LFix dest size cons (liter dest size cons k m)
  | 0, m, h, hk => by
    refine ⟨h, ?_⟩
    have hp := lpass_inv hsz hd hc h
    cases e : (lpass dest size cons m).1
    · exact lfold_stop hsz hd cons m hc h e
    · have := hp.2.1 e; omega
  | k + 1, m, h, hk => by
    have hp := lpass_inv hsz hd hc h
    simp only [liter]
    cases e : (lpass dest size cons m).1
    · exact ⟨h, lfold_stop hsz hd cons m hc h e⟩
    · have := hp.2.1 e
      exact liter_inv hsz hd hc k _ hp.1 (by omega)

/-- The times at the start. -/
def lstart (n : Nat) (dest D : Int) : List Int := (List.replicate n (-1)).set dest.toNat D
theorem lstart_inv {n : Nat} {dest D : Int} (hd : 0 ≤ dest ∧ dest < n) (hD : 0 ≤ D) : LInv n D dest (lstart n dest D) := by
  have hk : dest.toNat < (List.replicate n (-1 : Int)).length := by simp; omega
  refine ⟨by simp [lstart], ?_, ?_, ?_⟩
  · intro x hx
    rcases List.mem_or_eq_of_mem_set hx with hx | rfl
    · rw [List.eq_of_mem_replicate hx]; omega
    · omega
  · intro x hx
    rcases List.mem_or_eq_of_mem_set hx with hx | rfl
    · rw [List.eq_of_mem_replicate hx]; omega
    · omega
  · unfold lstart; rw [gi_set hk, if_pos rfl]

def Pln.times (p : Pln) (dest D size : Int) : List Int := liter dest size p.cons (mu D (lstart p.quo.length dest D)) (lstart p.quo.length dest D)
def Pln.argB (p : Pln) (dest D size : Int) : Bool := decide (0 ≤ dest ∧ dest < p.quo.length ∧ 0 ≤ D ∧ D ≤ 1099511627776 ∧ 1 ≤ size ∧ size ≤ 65536)
theorem Pln.times_inv {p : Pln} {dest D size : Int} (h : p.Ok) (ha : p.argB dest D size = true) : LInv p.quo.length D dest (p.times dest D size) ∧ LFix dest size p.cons (p.times dest D size) := by
  simp only [Pln.argB, decide_eq_true_eq] at ha
  exact liter_inv ⟨ha.2.2.2.2.1, ha.2.2.2.2.2⟩ ha.1 h.con _ _ (lstart_inv ⟨ha.1, ha.2.1⟩ ha.2.2.1) (Nat.le_refl _)

/-- Where a time that is not -1 comes from. -/
def LSup (dest size : Int) (cons : List Con) (m : List Int) : Prop := ∀ i : Nat, i < m.length → (i : Int) ≠ dest → 0 ≤ gi m i → ∃ c ∈ cons, c.src = i ∧ gi m i ≤ lbeg c (gi m c.dst) size
theorem lstep_sup {n : Nat} {D dest size : Int} {s : Bool × List Int} {c : Con} {all : List Con} (hall : Cons n all) (hin : c ∈ all) (h : LInv n D dest s.2) (hs : LSup dest size all s.2) : LSup dest size all (lstep dest size s c).2 := by
  have hc := hall c hin
  have hs0 := hc.1.src0
  have hd0 := hc.1.dst0
  unfold lstep
  split
  · rename_i hh
    have hk : c.src.toNat < s.2.length := by rw [h.len]; omega
    have hup : ∀ j : Int, gi s.2 j ≤ gi (s.2.set c.src.toNat (lbeg c (gi s.2 c.dst) size)) j := by
      intro j
      rw [gi_set hk]
      split
      · rename_i e
        have : gi s.2 j = gi s.2 c.src := by unfold gi; rw [e]
        omega
      · omega
    intro i hil hi h0
    simp only [List.length_set] at hil h0 ⊢
    by_cases e : i = c.src.toNat
    · refine ⟨c, hin, by omega, ?_⟩
      rw [gi_set hk, if_pos (by omega), gi_set hk, if_neg (by have := hc.1.ne; omega)]
      omega
    · rw [gi_set hk, if_neg (by omega)] at h0 ⊢
      obtain ⟨d, hd, hd1, hd2⟩ := hs i hil hi h0
      refine ⟨d, hd, hd1, Int.le_trans hd2 (lbeg_mono (hall d hd).1.st0 (h.lo _ (gi_mem (by rw [h.len]; have := (hall d hd).1.dst0; have := (hall d hd).2.2; omega))) (hup _) (Int.le_refl _))⟩
  · exact hs
theorem lfold_sup {n : Nat} {D dest size : Int} {all : List Con} (hsz : 1 ≤ size ∧ size ≤ 65536) (hd : 0 ≤ dest) (hall : Cons n all) : ∀ (cons : List Con) (s : Bool × List Int), (∀ c ∈ cons, c ∈ all) → LInv n D dest s.2 → LSup dest size all s.2 → LSup dest size all (cons.foldl (lstep dest size) s).2
  | [], _, _, _, h => h
  | c :: cons, s, hin, hi, h => by
    simp only [List.foldl_cons]
    exact lfold_sup hsz hd hall cons _ (fun x hx => hin x (by simp [hx])) (lstep_inv (hall c (hin c (by simp))) hsz hd hi).1 (lstep_sup hall (hin c (by simp)) hi h)
theorem liter_sup {n : Nat} {D dest size : Int} {cons : List Con} (hsz : 1 ≤ size ∧ size ≤ 65536) (hd : 0 ≤ dest) (hc : Cons n cons) : ∀ (k : Nat) (m : List Int), LInv n D dest m → LSup dest size cons m → LSup dest size cons (liter dest size cons k m)
  | 0, _, _, h => h
  | k + 1, m, hi, h => by
    simp only [liter]
    split
    · exact liter_sup hsz hd hc k _ (lpass_inv hsz hd hc hi).1 (lfold_sup hsz hd hc cons _ (fun x hx => hx) hi h)
    · exact h
theorem Pln.times_sup {p : Pln} {dest D size : Int} (h : p.Ok) (ha : p.argB dest D size = true) {i : Int} (h0 : 0 ≤ i) (hin : i < p.quo.length) (hi : i ≠ dest) (hg : 0 ≤ gi (p.times dest D size) i) :
    ∃ c ∈ p.cons, c.src = i ∧ lbeg c (gi (p.times dest D size) c.dst) size = gi (p.times dest D size) i := by
  have ha2 := ha
  simp only [Pln.argB, decide_eq_true_eq] at ha2
  have hs : LSup dest size p.cons (lstart p.quo.length dest D) := by
    intro j hjl hj hg
    exfalso
    have hk : dest.toNat < (List.replicate p.quo.length (-1 : Int)).length := by simp; omega
    unfold lstart at hg
    rw [gi_set hk, if_neg (by omega)] at hg
    have hl : j < p.quo.length := by simpa [lstart] using hjl
    have : gi (List.replicate p.quo.length (-1 : Int)) (j : Int) = -1 := by
      unfold gi; simp [hl]
    omega
  have h1 := liter_sup ⟨ha2.2.2.2.2.1, ha2.2.2.2.2.2⟩ ha2.1 h.con (mu D (lstart p.quo.length dest D)) _ (lstart_inv ⟨ha2.1, ha2.2.1⟩ ha2.2.2.1) hs
  obtain ⟨c, hc, e1, e2⟩ := h1 i.toNat (by have := (Pln.times_inv h ha).1.len; unfold Pln.times at this; omega) (by omega) (by rw [Int.toNat_of_nonneg h0]; exact hg)
  rw [Int.toNat_of_nonneg h0] at e1 e2
  refine ⟨c, hc, e1, ?_⟩
  have h2 := (Pln.times_inv h ha).2 c hc (by omega)
  rw [e1] at h2
  unfold Pln.times at *
  omega

end Go.Proofs.YtemkpimngbbpkaaGreat

/- Layer 24 (journey): the earliest arrivals as plain data, and the plain laws. -/
namespace Go.Proofs.YtemkpimngbbpkaaGreat
set_option linter.unusedVariables false
set_option linter.unusedSimpArgs false
set_option linter.unusedVariables false
open Go.RowKit

/-- The arrival of the earliest transmission from a time on; -1 if there is none. -/
def earr (c : Con) (t n : Int) : Int := if c.fitsB (c.beg t) n then c.beg t + c.dur n + c.rng else -1
theorem beg_ge (c : Con) (t : Int) : t ≤ c.beg t ∧ c.st ≤ c.beg t := by unfold Con.beg; split <;> omega
theorem beg_mono (c : Con) {s t : Int} (h : s ≤ t) : c.beg s ≤ c.beg t := by unfold Con.beg; split <;> split <;> omega
theorem earr_cases {c : Con} {t n : Int} (h : c.Ok) (hn : 1 ≤ n ∧ n ≤ 65536) :
    (earr c t n = -1 ∧ c.fitsB (c.beg t) n = false) ∨ (c.fitsB (c.beg t) n = true ∧ c.beg t ≤ c.en - c.dur n ∧ earr c t n = c.beg t + c.dur n + c.rng ∧ t + 2 ≤ earr c t n ∧ 2 ≤ earr c t n ∧ earr c t n ≤ 1099511627776) := by
  have d := Con.dur_bd h hn.1 hn.2
  have b := beg_ge c t
  have := h.st0
  have := h.rng0
  have := h.en1
  unfold earr
  cases hf : c.fitsB (c.beg t) n
  · simp
  · right
    simp only [Con.fitsB, decide_eq_true_eq] at hf
    rw [if_pos rfl]
    refine ⟨rfl, hf.2, rfl, ?_, ?_, ?_⟩ <;> omega
theorem earr_mono {c : Con} {s t m n : Int} (h : c.Ok) (hst : s ≤ t) (hm : 1 ≤ m) (hmn : m ≤ n) (hn : n ≤ 65536) (he : earr c t n ≠ -1) : earr c s m ≠ -1 ∧ 0 ≤ earr c s m ∧ earr c s m ≤ earr c t n := by
  have d := Con.dur_mono (c := c) h.rate0 (by omega : 0 ≤ m) hmn
  have b := beg_mono c hst
  have b2 := beg_ge c s
  rcases earr_cases (t := t) h ⟨by omega, hn⟩ with h1 | ⟨h1, h2, h3, h4, h5, h6⟩
  · exact absurd h1.1 he
  · rcases earr_cases (t := s) h ⟨hm, by omega⟩ with g1 | ⟨g1, g2, g3, g4, g5, g6⟩
    · have := g1.2
      simp only [Con.fitsB, decide_eq_false_iff_not] at this
      omega
    · omega

/-- Where one can be with at most k hops, and when. -/
inductive RK (cons : List Con) (n src t0 : Int) : Nat → Int → Int → Prop where
  | start (k : Nat) : RK cons n src t0 k src t0
  | step {k : Nat} {i t : Int} {c : Con} : RK cons n src t0 k i t → c ∈ cons → c.src = i → earr c t n ≠ -1 → RK cons n src t0 (k + 1) c.dst (earr c t n)
structure JC (N : Nat) (cons : List Con) (n src t0 : Int) : Prop where
  con : Cons N cons
  n1 : 1 ≤ n
  n2 : n ≤ 65536
  s0 : 0 ≤ src
  s1 : src < N
  r0 : 0 ≤ t0
  r1 : t0 ≤ 1099511627776
theorem RK.rng {N : Nat} {cons : List Con} {n src t0 : Int} (J : JC N cons n src t0) {k : Nat} {i t : Int} (h : RK cons n src t0 k i t) : 0 ≤ i ∧ i < N ∧ t0 ≤ t ∧ t ≤ 1099511627776 := by
  induction h with
  | start k => exact ⟨J.s0, J.s1, Int.le_refl _, J.r1⟩
  | step h hc hi he ih =>
    rename_i k i t c
    have hok := J.con c hc
    have h1 := hok.1.dst0
    have h2 := hok.2.2
    rcases earr_cases (t := t) hok.1 ⟨J.n1, J.n2⟩ with g | ⟨g1, g2, g3, g4, g5, g6⟩
    · exact absurd g.1 he
    · exact ⟨h1, h2, by omega, g6⟩
theorem RK.succ {cons : List Con} {n src t0 : Int} {k : Nat} {i t : Int} (h : RK cons n src t0 k i t) : RK cons n src t0 (k + 1) i t := by
  induction h with
  | start k => exact .start _
  | step h hc hi he ih => exact .step ih hc hi he
theorem RK.more {cons : List Con} {n src t0 : Int} {k : Nat} {i t : Int} (h : RK cons n src t0 k i t) : ∀ d : Nat, RK cons n src t0 (k + d) i t
  | 0 => h
  | d + 1 => (RK.more h d).succ
theorem RK.zero {cons : List Con} {n src t0 : Int} {i t : Int} (h : RK cons n src t0 0 i t) : i = src ∧ t = t0 := by
  cases h; exact ⟨rfl, rfl⟩

/-- The list of the least times; -1 where there is none. -/
structure Least (N : Nat) (R : Int → Int → Prop) (m : List Int) : Prop where
  len : m.length = N
  snd : ∀ i : Int, 0 ≤ i → i < N → gi m i = -1 ∨ R i (gi m i)
  best : ∀ i t, R i t → 0 ≤ gi m i ∧ gi m i ≤ t
theorem gi_ext {m m' : List Int} (hl : m.length = m'.length) (h : ∀ i : Int, 0 ≤ i → i < m.length → gi m i = gi m' i) : m = m' := by
  apply List.ext_getElem hl
  intro i h1 h2
  have := h i (by omega) (by omega)
  rwa [gi_get h1, gi_get h2] at this
theorem Least.unique {N : Nat} {R : Int → Int → Prop} {m m' : List Int} (h : Least N R m) (h' : Least N R m') : m = m' := by
  apply gi_ext (h.len.trans h'.len.symm)
  intro i h0 h1
  have hN : i < N := by have := h.len; omega
  rcases h.snd i h0 hN with e | e
  · rcases h'.snd i h0 hN with e' | e'
    · omega
    · have := h.best _ _ e'; omega
  · have h2 := h'.best _ _ e
    rcases h'.snd i h0 hN with e' | e'
    · omega
    · have := h.best _ _ e'; omega
theorem min_ex {P : Int → Prop} (h0 : ∀ t, P t → 0 ≤ t) : (∀ t, ¬ P t) ∨ ∃ t, P t ∧ ∀ s, P s → t ≤ s := by
  have key : ∀ (n : Nat) (t : Int), P t → t.toNat ≤ n → ∃ t, P t ∧ ∀ s, P s → t ≤ s := by
    intro n
    induction n with
    | zero =>
      intro t ht hn
      exact ⟨t, ht, fun s hs => by have := h0 s hs; have := h0 t ht; omega⟩
    | succ n ih =>
      intro t ht hn
      by_cases h : ∃ s, P s ∧ s < t
      · obtain ⟨s, hs, hst⟩ := h
        exact ih s hs (by have := h0 s hs; omega)
      · exact ⟨t, ht, fun s hs => by
          apply Classical.byContradiction
          intro hh
          exact h ⟨s, hs, by omega⟩⟩
  by_cases h : ∃ t, P t
  · obtain ⟨t, ht⟩ := h
    exact .inr (key _ t ht (Nat.le_refl _))
  · exact .inl fun t ht => h ⟨t, ht⟩
theorem list_ex {q : Nat → Int → Prop} : ∀ (n : Nat), (∀ i, i < n → ∃ x, q i x) → ∃ l : List Int, l.length = n ∧ ∀ (i : Nat) (h : i < l.length), q i l[i]
  | 0, _ => ⟨[], rfl, fun i h => by simp at h⟩
  | n + 1, h => by
    obtain ⟨l, hl, hq⟩ := list_ex n (fun i hi => h i (by omega))
    obtain ⟨x, hx⟩ := h n (by omega)
    refine ⟨l ++ [x], by simp [hl], fun i hi => ?_⟩
    by_cases hin : i < l.length
    · rw [List.getElem_append_left hin]; exact hq i hin
    · have : i = n := by simp [hl] at hi; omega
      subst this
      subst hl
      simpa using hx
theorem Least.exists {N : Nat} {R : Int → Int → Prop} (hR : ∀ i t, R i t → 0 ≤ i ∧ i < N ∧ 0 ≤ t) : ∃ m, Least N R m := by
  obtain ⟨l, hl, hq⟩ := list_ex (q := fun i x => (x = -1 ∨ R i x) ∧ ∀ t, R i t → 0 ≤ x ∧ x ≤ t) N (fun i hi => by
    rcases min_ex (P := R i) (fun t ht => (hR _ _ ht).2.2) with h | ⟨t, ht, h⟩
    · exact ⟨-1, .inl rfl, fun t ht => absurd ht (h t)⟩
    · exact ⟨t, .inr ht, fun s hs => ⟨(hR _ _ ht).2.2, h s hs⟩⟩)
  have key : ∀ i : Int, 0 ≤ i → i < N → (gi l i = -1 ∨ R i (gi l i)) ∧ ∀ t, R i t → 0 ≤ gi l i ∧ gi l i ≤ t := by
    intro i h0 h1
    have hk : i.toNat < l.length := by omega
    have := hq i.toNat hk
    rw [Int.toNat_of_nonneg h0] at this
    rw [gi_of h0 hk]
    exact this
  exact ⟨l, hl, fun i h0 h1 => (key i h0 h1).1, fun i t h => (key i (hR _ _ h).1 (hR _ _ h).2.1).2 t h⟩

theorem lstart_gi {N : Nat} {src t0 : Int} (h0 : 0 ≤ src) (h1 : src < N) {i : Int} (hi : 0 ≤ i) (hN : i < N) : gi (lstart N src t0) i = if i = src then t0 else -1 := by
  have hk : src.toNat < (List.replicate N (-1 : Int)).length := by simp; omega
  unfold lstart
  rw [gi_set hk]
  by_cases h : i = src
  · rw [if_pos (by rw [h]), if_pos h]
  · rw [if_neg (by omega), if_neg h]
    have : i.toNat < N := by omega
    simp [gi, this]
theorem lstart_len (N : Nat) (src t0 : Int) : (lstart N src t0).length = N := by simp [lstart]
theorem lstart_least {N : Nat} {cons : List Con} {n src t0 : Int} (J : JC N cons n src t0) : Least N (RK cons n src t0 0) (lstart N src t0) := by
  refine ⟨lstart_len _ _ _, fun i h0 h1 => ?_, fun i t h => ?_⟩
  · rw [lstart_gi J.s0 J.s1 h0 h1]
    split
    · rename_i h; subst h; exact .inr (.start 0)
    · exact .inl rfl
  · obtain ⟨rfl, rfl⟩ := h.zero
    rw [lstart_gi J.s0 J.s1 J.s0 J.s1, if_pos rfl]
    exact ⟨J.r0, Int.le_refl _⟩

def relax (out : List Int) (j a : Int) : List Int := if a ≠ -1 ∧ (gi out j < 0 ∨ a < gi out j) then out.set j.toNat a else out
theorem relax_len (out : List Int) (j a : Int) : (relax out j a).length = out.length := by unfold relax; split <;> simp
theorem relax_gi {out : List Int} {j a : Int} (hj : 0 ≤ j) (hl : j < out.length) {i : Int} (hi : 0 ≤ i) :
    (gi (relax out j a) i = gi out i ∧ (i = j → ¬ (a ≠ -1 ∧ (gi out j < 0 ∨ a < gi out j)))) ∨ (i = j ∧ gi (relax out j a) i = a ∧ a ≠ -1 ∧ (gi out j < 0 ∨ a < gi out j)) := by
  unfold relax
  split
  · rename_i h
    rw [gi_set (by omega)]
    by_cases e : i = j
    · rw [if_pos (by rw [e])]; exact .inr ⟨e, rfl, h⟩
    · rw [if_neg (by omega)]; exact .inl ⟨rfl, fun e' => absurd e' e⟩
  · rename_i h
    exact .inl ⟨rfl, fun _ => h⟩
def rstep (n : Int) (m : List Int) (out : List Int) (c : Con) : List Int := if 0 ≤ gi m c.src then relax out c.dst (earr c (gi m c.src) n) else out
def rnd (cons : List Con) (n : Int) (m : List Int) : List Int := cons.foldl (rstep n m) m
def rnds (cons : List Con) (n : Int) (m : List Int) : Nat → List Int
  | 0 => m
  | k + 1 => rnd cons n (rnds cons n m k)

section
variable {N : Nat} {cons : List Con} {n src t0 : Int}
/-- Within a round. -/
structure RI (N : Nat) (cons : List Con) (n src t0 : Int) (k : Nat) (m out : List Int) (D : Con → Prop) : Prop where
  len : out.length = N
  snd : ∀ i : Int, 0 ≤ i → i < N → gi out i = -1 ∨ RK cons n src t0 (k + 1) i (gi out i)
  le : ∀ i : Int, 0 ≤ i → i < N → 0 ≤ gi m i → 0 ≤ gi out i ∧ gi out i ≤ gi m i
  rel : ∀ c ∈ cons, D c → 0 ≤ gi m c.src → earr c (gi m c.src) n ≠ -1 → 0 ≤ gi out c.dst ∧ gi out c.dst ≤ earr c (gi m c.src) n
theorem RI.init {k : Nat} {m : List Int} (h : Least N (RK cons n src t0 k) m) : RI N cons n src t0 k m m (fun _ => False) :=
  ⟨h.len, fun i h0 h1 => (h.snd i h0 h1).imp id RK.succ, fun i _ _ h => ⟨h, Int.le_refl _⟩, fun _ _ h => h.elim⟩
theorem RI.weak {k : Nat} {m out : List Int} {D D' : Con → Prop} (h : RI N cons n src t0 k m out D) (hD : ∀ c ∈ cons, D' c → 0 ≤ gi m c.src → earr c (gi m c.src) n ≠ -1 → D c) : RI N cons n src t0 k m out D' :=
  ⟨h.len, h.snd, h.le, fun c hc hd h0 he => h.rel c hc (hD c hc hd h0 he) h0 he⟩
theorem RI.relax (J : JC N cons n src t0) {k : Nat} {m out : List Int} {D : Con → Prop} (hm : Least N (RK cons n src t0 k) m) (h : RI N cons n src t0 k m out D) {c : Con} (hc : c ∈ cons) (h0 : 0 ≤ gi m c.src) :
    RI N cons n src t0 k m (relax out c.dst (earr c (gi m c.src) n)) (fun x => D x ∨ x = c) := by
  have hok := J.con c hc
  have s0 := hok.1.src0
  have d0 := hok.1.dst0
  have d1 := hok.2.2
  have hl := h.len
  have hR : earr c (gi m c.src) n ≠ -1 → RK cons n src t0 (k + 1) c.dst (earr c (gi m c.src) n) := fun he => by
    rcases hm.snd c.src s0 hok.2.1 with e | e
    · omega
    · exact .step e hc rfl he
  have hpos : earr c (gi m c.src) n ≠ -1 → 0 ≤ earr c (gi m c.src) n := fun he => by
    rcases earr_cases (t := gi m c.src) hok.1 ⟨J.n1, J.n2⟩ with g | ⟨g1, g2, g3, g4, g5, g6⟩
    · exact absurd g.1 he
    · omega
  refine ⟨by rw [relax_len]; exact hl, fun i i0 i1 => ?_, fun i i0 i1 hi => ?_, fun x hx hd hx0 hxe => ?_⟩
  · rcases relax_gi (a := earr c (gi m c.src) n) d0 (by omega : c.dst < out.length) i0 with ⟨e, _⟩ | ⟨rfl, e, he, _⟩
    · rw [e]; exact h.snd i i0 i1
    · rw [e]; exact .inr (hR he)
  · have h1 := h.le i i0 i1 hi
    rcases relax_gi (a := earr c (gi m c.src) n) d0 (by omega : c.dst < out.length) i0 with ⟨e, _⟩ | ⟨rfl, e, he, h2⟩
    · rw [e]; exact h1
    · rw [e]; have := hpos he; omega
  · have x0 := (J.con x hx).1.dst0
    rcases relax_gi (a := earr c (gi m c.src) n) d0 (by omega : c.dst < out.length) x0 with ⟨e, h2⟩ | ⟨hxd, e, he, h2⟩
    · rcases hd with hd | rfl
      · rw [e]; exact h.rel x hx hd hx0 hxe
      · have h9 := h2 rfl
        rw [e]
        rcases h.snd x.dst d0 d1 with g | g
        · exact absurd ⟨hxe, .inl (by omega)⟩ h9
        · have g2 := RK.rng J g
          have := J.r0
          refine ⟨by omega, ?_⟩
          apply Classical.byContradiction
          intro hh
          exact h9 ⟨hxe, .inr (by omega)⟩
    · rcases hd with hd | rfl
      · have := h.rel x hx hd hx0 hxe
        rw [e]
        rw [hxd] at this
        have := hpos he
        omega
      · rw [e]; exact ⟨hpos he, Int.le_refl _⟩
theorem RI.step (J : JC N cons n src t0) {k : Nat} {m out : List Int} {D : Con → Prop} (hm : Least N (RK cons n src t0 k) m) (h : RI N cons n src t0 k m out D) {c : Con} (hc : c ∈ cons) :
    RI N cons n src t0 k m (rstep n m out c) (fun x => D x ∨ x = c) := by
  unfold rstep
  split
  · rename_i h0; exact h.relax J hm hc h0
  · rename_i h0
    refine h.weak fun x _ hd hx _ => ?_
    rcases hd with hd | rfl
    · exact hd
    · exact absurd hx h0
theorem RI.done (J : JC N cons n src t0) {k : Nat} {m out : List Int} {D : Con → Prop} (hm : Least N (RK cons n src t0 k) m) (h : RI N cons n src t0 k m out D)
    (hD : ∀ c ∈ cons, 0 ≤ gi m c.src → earr c (gi m c.src) n ≠ -1 → D c) : Least N (RK cons n src t0 (k + 1)) out := by
  refine ⟨h.len, h.snd, fun i t hi => ?_⟩
  cases hi with
  | start =>
    have h1 := hm.best src t0 (.start k)
    have h2 := h.le src J.s0 J.s1 h1.1
    omega
  | step hr hc hi he =>
    rename_i i t c
    subst hi
    have h1 := hm.best _ _ hr
    have h2 := earr_mono (J.con c hc).1 h1.2 J.n1 (Int.le_refl n) J.n2 he
    have h3 := h.rel c hc (hD c hc h1.1 h2.1) h1.1 h2.1
    omega
theorem rfold_ri (J : JC N cons n src t0) {k : Nat} {m : List Int} (hm : Least N (RK cons n src t0 k) m) : ∀ (l : List Con) (out : List Int) (D : Con → Prop), (∀ c ∈ l, c ∈ cons) → RI N cons n src t0 k m out D → RI N cons n src t0 k m (l.foldl (rstep n m) out) (fun x => D x ∨ x ∈ l)
  | [], out, D, _, h => h.weak fun x _ hd _ _ => by simpa using hd
  | c :: l, out, D, hl, h => by
    simp only [List.foldl_cons]
    refine (rfold_ri J hm l _ _ (fun x hx => hl x (by simp [hx])) (h.step J hm (hl c (by simp)))).weak fun x _ hd _ _ => ?_
    rcases hd with hd | hd
    · exact .inl (.inl hd)
    · rcases List.mem_cons.1 hd with rfl | hd
      · exact .inl (.inr rfl)
      · exact .inr hd
theorem rnd_least (J : JC N cons n src t0) {k : Nat} {m : List Int} (hm : Least N (RK cons n src t0 k) m) : Least N (RK cons n src t0 (k + 1)) (rnd cons n m) :=
  (rfold_ri J hm cons m _ (fun _ h => h) (RI.init hm)).done J hm fun c hc _ _ => .inr hc
theorem rnds_least (J : JC N cons n src t0) : ∀ k, Least N (RK cons n src t0 k) (rnds cons n (lstart N src t0) k)
  | 0 => lstart_least J
  | k + 1 => rnd_least J (rnds_least J k)

/-- Where one can be at all. -/
def RA (cons : List Con) (n src t0 : Int) (i t : Int) : Prop := ∃ k, RK cons n src t0 k i t
theorem RA.rng (J : JC N cons n src t0) {i t : Int} (h : RA cons n src t0 i t) : 0 ≤ i ∧ i < N ∧ t0 ≤ t ∧ t ≤ 1099511627776 := by
  obtain ⟨k, h⟩ := h; exact h.rng J
theorem RA.start : RA cons n src t0 src t0 := ⟨0, .start 0⟩
theorem RA.step {i t : Int} {c : Con} (h : RA cons n src t0 i t) (hc : c ∈ cons) (hi : c.src = i) (he : earr c t n ≠ -1) : RA cons n src t0 c.dst (earr c t n) := by
  obtain ⟨k, h⟩ := h; exact ⟨k + 1, .step h hc hi he⟩
theorem Least.srcT {m : List Int} (J : JC N cons n src t0) (h : Least N (RA cons n src t0) m) : gi m src = t0 := by
  have h1 := h.best _ _ RA.start
  rcases h.snd src J.s0 J.s1 with e | e
  · omega
  · have := RA.rng J e; omega
theorem Least.edge {m : List Int} (J : JC N cons n src t0) (h : Least N (RA cons n src t0) m) {c : Con} (hc : c ∈ cons) (h0 : 0 ≤ gi m c.src) (he : earr c (gi m c.src) n ≠ -1) : 0 ≤ gi m c.dst ∧ gi m c.dst ≤ earr c (gi m c.src) n := by
  have hok := J.con c hc
  rcases h.snd c.src hok.1.src0 hok.2.1 with e | e
  · omega
  · exact h.best _ _ (e.step hc rfl he)
/-- Where a least time comes from. -/
theorem Least.sup {m : List Int} (J : JC N cons n src t0) (h : Least N (RA cons n src t0) m) {i : Int} (h0 : 0 ≤ gi m i) (hi : 0 ≤ i) (hN : i < N) :
    (i = src ∧ gi m i = t0) ∨ ∃ c ∈ cons, c.dst = i ∧ 0 ≤ gi m c.src ∧ earr c (gi m c.src) n = gi m i ∧ gi m c.src < gi m i := by
  rcases h.snd i hi hN with e | e
  · omega
  · obtain ⟨k, e⟩ := e
    generalize hg : gi m i = g at *
    cases e with
    | start => exact .inl ⟨rfl, rfl⟩
    | step hr hcm hsr he =>
      rename_i j t c
      subst hsr
      right
      have h1 := h.best _ _ ⟨_, hr⟩
      have hok := (J.con c hcm).1
      have h2 := earr_mono hok h1.2 J.n1 (Int.le_refl n) J.n2 he
      have h3 := h.edge J hcm h1.1 h2.1
      refine ⟨c, hcm, rfl, h1.1, by omega, ?_⟩
      rcases earr_cases (t := gi m c.src) hok ⟨J.n1, J.n2⟩ with g | ⟨g1, g2, g3, g4, g5, g6⟩
      · exact absurd g.1 h2.1
      · omega

def rank (m : List Int) (v : Int) : Nat := m.countP fun x => decide (0 ≤ x ∧ x < v)
theorem rank_lt : ∀ {m : List Int} {u v : Int}, u ∈ m → 0 ≤ u → u < v → rank m u < rank m v
  | [], _, _, h, _, _ => by simp at h
  | x :: m, u, v, h, h0, h1 => by
    have le : ∀ l : List Int, rank l u ≤ rank l v := fun l => by
      unfold rank
      apply List.countP_mono_left
      intro x _ hx
      simp only [decide_eq_true_eq] at hx ⊢
      omega
    unfold rank at le ⊢
    rw [List.countP_cons, List.countP_cons]
    rcases List.mem_cons.1 h with rfl | h
    · have := le m
      rw [if_neg (by simp), if_pos (by simp; omega)]
      omega
    · have := rank_lt h h0 h1
      unfold rank at this
      have hx : (if decide (0 ≤ x ∧ x < u) = true then 1 else 0) ≤ (if decide (0 ≤ x ∧ x < v) = true then 1 else 0) := by
        by_cases h2 : 0 ≤ x ∧ x < u
        · rw [if_pos (by simpa using h2), if_pos (by simp; omega)]; omega
        · rw [if_neg (by simpa using h2)]; omega
      omega
theorem rank_bd {m : List Int} {v : Int} (h : v ∈ m) : rank m v < m.length := by
  unfold rank
  have h1 : m.countP (fun x => decide (0 ≤ x ∧ x < v)) ≤ m.length := List.countP_le_length
  apply Nat.lt_of_le_of_ne h1
  intro e
  have := List.countP_eq_length.1 e v h
  simp at this
theorem rnds_hit (J : JC N cons n src t0) {m : List Int} (hm : Least N (RA cons n src t0) m) : ∀ (k : Nat) (i : Int), 0 ≤ i → i < N → 0 ≤ gi m i → rank m (gi m i) ≤ k → gi (rnds cons n (lstart N src t0) k) i = gi m i := by
  intro k
  induction k with
  | zero =>
    intro i h0 h1 hg hr
    have hl := rnds_least J 0
    rcases hm.sup J hg h0 h1 with ⟨rfl, e⟩ | ⟨c, hc, e1, e2, e3, e4⟩
    · have := hl.best _ _ (.start 0)
      rcases hl.snd i h0 h1 with g | g
      · omega
      · have := hm.best _ _ ⟨_, g⟩; omega
    · have := rank_lt (m := m) (gi_mem (by have := (J.con c hc).1.src0; have := (J.con c hc).2.1; have := hm.len; omega)) e2 e4
      omega
  | succ k ih =>
    intro i h0 h1 hg hr
    have hl := rnds_least J (k + 1)
    have hle : 0 ≤ gi (rnds cons n (lstart N src t0) (k + 1)) i ∧ gi (rnds cons n (lstart N src t0) (k + 1)) i ≤ gi m i := by
      rcases hm.sup J hg h0 h1 with ⟨rfl, e⟩ | ⟨c, hc, e1, e2, e3, e4⟩
      · rw [e]; exact hl.best _ _ (.start _)
      · have s0 := (J.con c hc).1.src0
        have s1 := (J.con c hc).2.1
        have := rank_lt (m := m) (gi_mem (i := c.src) (by have := hm.len; omega)) e2 e4
        have h2 := ih c.src s0 s1 e2 (by omega)
        rcases (rnds_least J k).snd c.src s0 s1 with g | g
        · omega
        · rw [h2] at g
          have := hl.best _ _ (.step g hc rfl (by omega))
          rw [e1, e3] at this
          exact this
    rcases hl.snd i h0 h1 with g | g
    · omega
    · have := hm.best _ _ ⟨_, g⟩; omega
/-- As many rounds as nodes suffice; one less does, too. -/
theorem rnds_all (J : JC N cons n src t0) {k : Nat} (hk : N ≤ k + 1) : Least N (RA cons n src t0) (rnds cons n (lstart N src t0) k) := by
  obtain ⟨m, hm⟩ := Least.exists (N := N) (R := RA cons n src t0) (fun i t h => by have := RA.rng J h; have := J.r0; omega)
  have e : rnds cons n (lstart N src t0) k = m := by
    have hl := rnds_least J k
    apply gi_ext (hl.len.trans hm.len.symm)
    intro i h0 h1
    have hN : i < N := by have := hl.len; omega
    rcases hm.snd i h0 hN with g | g
    · rcases hl.snd i h0 hN with g' | g'
      · omega
      · have := hm.best _ _ ⟨_, g'⟩; omega
    · have h2 := hm.best _ _ g
      have := rank_bd (m := m) (gi_mem (i := i) (by have := hm.len; omega))
      exact rnds_hit J hm k i h0 hN h2.1 (by have := hm.len; omega)
  rw [e]; exact hm
end

def Pln.arrs (p : Pln) (src t0 n : Int) : List Int := rnds p.cons n (lstart p.quo.length src t0) p.quo.length
def Pln.argF (p : Pln) (src t0 n : Int) : Bool := decide (0 ≤ src ∧ src < p.quo.length ∧ 0 ≤ t0 ∧ t0 ≤ 1099511627776 ∧ 1 ≤ n ∧ n ≤ 65536)
theorem Pln.jc {p : Pln} {src t0 n : Int} (h : p.Ok) (ha : p.argF src t0 n = true) : JC p.quo.length p.cons n src t0 := by
  simp only [Pln.argF, decide_eq_true_eq] at ha
  exact ⟨h.con, ha.2.2.2.2.1, ha.2.2.2.2.2, ha.1, ha.2.1, ha.2.2.1, ha.2.2.2.1⟩
theorem Pln.arrs_least {p : Pln} {src t0 n : Int} (h : p.Ok) (ha : p.argF src t0 n = true) : Least p.quo.length (RA p.cons n src t0) (p.arrs src t0 n) :=
  rnds_all (Pln.jc h ha) (by omega)
/-- The times and the nodes that were left, while the node x is left over the contacts D. -/
def gb (l : List Bool) (i : Int) : Bool := l.getD i.toNat false
theorem gb_set {l : List Bool} {i j : Int} {v : Bool} (hi : i.toNat < l.length) : gb (l.set i.toNat v) j = if j.toNat = i.toNat then v else gb l j := by
  unfold gb
  simp only [List.getD_eq_getElem?_getD]
  by_cases h : j.toNat = i.toNat
  · rw [if_pos h, h, List.getElem?_set_self hi]; rfl
  · rw [if_neg h, List.getElem?_set_ne (by omega)]
structure DI (N : Nat) (cons : List Con) (n src t0 : Int) (m : List Int) (lf : List Bool) (cur x : Int) (D : Con → Prop) : Prop where
  len : m.length = N
  lfl : lf.length = N
  snd : ∀ i : Int, 0 ≤ i → i < N → gi m i = -1 ∨ RA cons n src t0 i (gi m i)
  src : 0 ≤ gi m src ∧ gi m src ≤ t0
  lo : ∀ i : Int, 0 ≤ i → i < N → gb lf i = true → 0 ≤ gi m i ∧ gi m i ≤ cur
  hi : ∀ i : Int, 0 ≤ i → i < N → gb lf i = false → 0 ≤ gi m i → cur ≤ gi m i
  cl : ∀ c ∈ cons, gb lf c.src = true → (c.src = x → D c) → earr c (gi m c.src) n ≠ -1 → 0 ≤ gi m c.dst ∧ gi m c.dst ≤ earr c (gi m c.src) n
section
variable {N : Nat} {cons : List Con} {n src t0 : Int} {m : List Int} {lf : List Bool} {cur x : Int} {D : Con → Prop}
theorem DI.init (J : JC N cons n src t0) : DI N cons n src t0 (lstart N src t0) (List.replicate N false) 0 (-1) (fun _ => True) := by
  have h := lstart_least J
  have hf : ∀ i : Int, gb (List.replicate N false) i = false := fun i => by
    unfold gb
    rw [List.getD_eq_getElem?_getD]
    cases h : (List.replicate N false)[i.toNat]? with
    | none => rfl
    | some v => have := List.mem_of_getElem? h; rw [List.eq_of_mem_replicate this]; rfl
  refine ⟨h.len, by simp, fun i h0 h1 => (h.snd i h0 h1).imp id fun e => ⟨_, e⟩, h.best _ _ (.start 0), fun i _ _ e => ?_, fun i _ _ _ e => e, fun c _ e => ?_⟩
  · rw [hf] at e; cases e
  · rw [hf] at e; cases e
theorem DI.take (h : DI N cons n src t0 m lf cur (-1) D) {b : Int} (b0 : 0 ≤ b) (b1 : b < N) (hb : 0 ≤ gi m b) (hl : gb lf b = false) (hmin : ∀ i : Int, 0 ≤ i → i < N → gb lf i = false → 0 ≤ gi m i → gi m b ≤ gi m i)
    (hc0 : ∀ c ∈ cons, 0 ≤ c.src) : DI N cons n src t0 m (lf.set b.toNat true) (gi m b) b (fun _ => False) := by
  have hlen := h.lfl
  have hk : b.toNat < lf.length := by omega
  have hcur := h.hi b b0 b1 hl hb
  refine ⟨h.len, by rw [List.length_set]; exact hlen, h.snd, h.src, fun i i0 i1 e => ?_, fun i i0 i1 e hi => ?_, fun c hc e hx he => ?_⟩
  · rw [gb_set hk] at e
    split at e
    · rename_i hh; have : i = b := by omega
      rw [this]; exact ⟨hb, Int.le_refl _⟩
    · have := h.lo i i0 i1 e; omega
  · rw [gb_set hk] at e
    split at e
    · cases e
    · exact hmin i i0 i1 e hi
  · rw [gb_set hk] at e
    have := hc0 c hc
    split at e
    · exact (hx (by omega)).elim
    · exact h.cl c hc e (fun e' => by omega) he
theorem DI.relax (J : JC N cons n src t0) (h : DI N cons n src t0 m lf cur x D) (hx : gb lf x = true) (hcur : gi m x = cur) {c : Con} (hc : c ∈ cons) (hcx : c.src = x) :
    DI N cons n src t0 (relax m c.dst (earr c cur n)) lf cur x (fun y => D y ∨ y = c) ∧ gi (relax m c.dst (earr c cur n)) x = cur := by
  have hok := J.con c hc
  have s0 := hok.1.src0
  have s1 := hok.2.1
  have d0 := hok.1.dst0
  have d1 := hok.2.2
  have hl := h.len
  have hx0 : 0 ≤ gi m x ∧ gi m x ≤ cur := h.lo x (by omega) (by omega) hx
  have hR : earr c cur n ≠ -1 → RA cons n src t0 c.dst (earr c cur n) := fun he => by
    rcases h.snd x (by omega) (by omega) with e | e
    · omega
    · rw [hcur] at e; exact e.step hc hcx he
  have hpos : earr c cur n ≠ -1 → cur < earr c cur n := fun he => by
    rcases earr_cases (t := cur) hok.1 ⟨J.n1, J.n2⟩ with g | ⟨g1, g2, g3, g4, g5, g6⟩
    · exact absurd g.1 he
    · omega
  have hleft : ∀ i : Int, 0 ≤ i → i < N → gb lf i = true → gi (Go.Proofs.YtemkpimngbbpkaaGreat.relax m c.dst (earr c cur n)) i = gi m i := fun i i0 i1 e => by
    rcases relax_gi (a := earr c cur n) d0 (by omega : c.dst < m.length) i0 with ⟨e', _⟩ | ⟨rfl, e', he, h2⟩
    · exact e'
    · have := h.lo _ i0 i1 e
      have := hpos he
      omega
  have hdn : ∀ i : Int, 0 ≤ i → 0 ≤ gi m i → 0 ≤ gi (Go.Proofs.YtemkpimngbbpkaaGreat.relax m c.dst (earr c cur n)) i ∧ gi (Go.Proofs.YtemkpimngbbpkaaGreat.relax m c.dst (earr c cur n)) i ≤ gi m i := fun i i0 e => by
    rcases relax_gi (a := earr c cur n) d0 (by omega : c.dst < m.length) i0 with ⟨e', _⟩ | ⟨rfl, e', he, h2⟩
    · rw [e']; exact ⟨e, Int.le_refl _⟩
    · rw [e']; have := hpos he; omega
  refine ⟨⟨by rw [relax_len]; exact hl, h.lfl, fun i i0 i1 => ?_, ?_, fun i i0 i1 e => ?_, fun i i0 i1 e hi => ?_, fun y hy e hyx he => ?_⟩, ?_⟩
  · rcases relax_gi (a := earr c cur n) d0 (by omega : c.dst < m.length) i0 with ⟨e', _⟩ | ⟨rfl, e', he, h2⟩
    · rw [e']; exact h.snd i i0 i1
    · rw [e']; exact .inr (hR he)
  · have h1 := hdn src J.s0 h.src.1
    have := h.src.2
    omega
  · rw [hleft i i0 i1 e]; exact h.lo i i0 i1 e
  · rcases relax_gi (a := earr c cur n) d0 (by omega : c.dst < m.length) i0 with ⟨e', _⟩ | ⟨rfl, e', he, h2⟩
    · rw [e'] at hi ⊢; exact h.hi i i0 i1 e hi
    · rw [e']; have := hpos he; omega
  · have hyok := J.con y hy
    rw [hleft y.src hyok.1.src0 hyok.2.1 e] at he ⊢
    by_cases hyc : y.src = x ∧ y = c
    · obtain ⟨h1, rfl⟩ := hyc
      rw [h1, hcur] at he ⊢
      rcases relax_gi (a := earr y cur n) d0 (by omega : y.dst < m.length) d0 with ⟨e', h2⟩ | ⟨_, e', he', h2⟩
      · have h3 := h2 rfl
        rw [e']
        rcases h.snd y.dst d0 d1 with g | g
        · exact absurd ⟨he, .inl (by omega)⟩ h3
        · have g2 := RA.rng J g
          have := J.r0
          refine ⟨by omega, ?_⟩
          apply Classical.byContradiction
          intro hh
          exact h3 ⟨he, .inr (by omega)⟩
      · rw [e']; have := hpos he; omega
    · have h1 := h.cl y hy e (fun e' => by
        rcases hyx e' with g | g
        · exact g
        · exact absurd ⟨e', g⟩ hyc) he
      have h2 := hdn y.dst hyok.1.dst0 h1.1
      omega
  · rw [hleft x (by omega) (by omega) hx]; exact hcur
theorem DI.weak {D' : Con → Prop} (h : DI N cons n src t0 m lf cur x D) (hD : ∀ c ∈ cons, c.src = x → D' c → D c) : DI N cons n src t0 m lf cur x D' :=
  ⟨h.len, h.lfl, h.snd, h.src, h.lo, h.hi, fun c hc e hd he => h.cl c hc e (fun e' => hD c hc e' (hd e')) he⟩
theorem DI.done (J : JC N cons n src t0) (h : DI N cons n src t0 m lf cur (-1) D) (hno : ∀ i : Int, 0 ≤ i → i < N → 0 ≤ gi m i → gb lf i = true) : Least N (RA cons n src t0) m := by
  refine ⟨h.len, h.snd, ?_⟩
  rintro i t ⟨k, hk⟩
  induction hk with
  | start => exact h.src
  | step hr hc hi he ih =>
    rename_i k i t c
    subst hi
    have hok := J.con c hc
    have h1 := hno c.src hok.1.src0 hok.2.1 ih.1
    have h2 := earr_mono hok.1 ih.2 J.n1 (Int.le_refl n) J.n2 he
    have h3 := h.cl c hc h1 (fun e => by have := hok.1.src0; omega) h2.1
    omega
end
end Go.Proofs.YtemkpimngbbpkaaGreat

/- Layer 24 (journey): journeys as plain data. -/
namespace Go.Proofs.YtemkpimngbbpkaaGreat
set_option linter.unusedVariables false
set_option linter.unusedSimpArgs false
set_option linter.unusedVariables false
open Go.RowKit

/-- The hop over the contact i that begins as early as possible. -/
def hopAt (i : Nat) (c : Con) (t n : Int) : Hp := ⟨i, c.beg t, c.beg t + c.dur n, c.beg t + c.dur n + c.rng⟩
def hopR (i : Nat) (c : Con) (t n : Int) : Hp := if earr c t n = -1 then ⟨0, 0, 0, 0⟩ else hopAt i c t n
theorem hopAt_arr {i : Nat} {c : Con} {t n : Int} (he : earr c t n ≠ -1) : (hopAt i c t n).arr = earr c t n := by
  unfold earr at he ⊢
  split
  · rfl
  · rename_i h; rw [if_neg h] at he; exact absurd rfl he

/-- A contact that leads to a node at a time. -/
def cand (f : List Int) (n node time : Int) (c : Con) : Bool := decide (c.dst = node ∧ 0 ≤ gi f c.src ∧ earr c (gi f c.src) n ≠ -1 ∧ earr c (gi f c.src) n = time)
def better (f : List Int) (c : Con) : Option (Nat × Con) → Bool
  | none => true
  | some d => decide (gi f c.src < gi f d.2.src)
def bstep (f : List Int) (n node time : Int) (i : Nat) (c : Con) (b : Option (Nat × Con)) : Option (Nat × Con) := if cand f n node time c && better f c b then some (i, c) else b
def bestC (f : List Int) (n node time : Int) : Nat → List Con → Option (Nat × Con) → Option (Nat × Con)
  | _, [], b => b
  | i, c :: l, b => bestC f n node time (i + 1) l (bstep f n node time i c b)
def lastC (f : List Int) (n node time : Int) (cons : List Con) : Option (Nat × Con) := bestC f n node time 0 cons none
theorem bestC_some {f : List Int} {n node time : Int} {cons : List Con} : ∀ (l : List Con) (k : Nat) (b : Option (Nat × Con)), l = cons.drop k → (∀ i c, b = some (i, c) → cons[i]? = some c ∧ cand f n node time c = true) →
    ∀ i c, bestC f n node time k l b = some (i, c) → cons[i]? = some c ∧ cand f n node time c = true
  | [], _, _, _, hb, i, c, h => hb i c h
  | x :: l, k, b, hl, hb, i, c, h => by
    simp only [bestC] at h
    have hk : k < cons.length := by
      apply Classical.byContradiction
      intro hh
      rw [List.drop_eq_nil_of_le (by omega)] at hl
      cases hl
    rw [List.drop_eq_getElem_cons hk] at hl
    injection hl with h1 h2
    refine bestC_some l (k + 1) _ h2 (fun j d hj => ?_) i c h
    unfold bstep at hj
    split at hj
    · rename_i hc
      injection hj with hj
      injection hj with hj1 hj2
      subst hj1 hj2
      simp only [Bool.and_eq_true] at hc
      exact ⟨by rw [List.getElem?_eq_getElem hk, h1], hc.1⟩
    · exact hb j d hj
theorem bestC_keep {f : List Int} {n node time : Int} : ∀ (l : List Con) (k : Nat) (b : Option (Nat × Con)), bestC f n node time k l b = none → b = none ∧ ∀ c ∈ l, cand f n node time c = false
  | [], _, _, h => ⟨h, by simp⟩
  | x :: l, k, b, h => by
    simp only [bestC] at h
    have h1 := bestC_keep l (k + 1) _ h
    unfold bstep at h1
    cases b with
    | none =>
      refine ⟨rfl, fun c hc => ?_⟩
      rcases List.mem_cons.1 hc with rfl | hc
      · have h2 := h1.1
        cases hx : cand f n node time c
        · rfl
        · rw [hx] at h2; cases h2
      · exact h1.2 c hc
    | some d =>
      have h2 := h1.1
      split at h2 <;> cases h2
theorem lastC_spec {f : List Int} {n node time : Int} {cons : List Con} {i : Nat} {c : Con} (h : lastC f n node time cons = some (i, c)) : cons[i]? = some c ∧ c ∈ cons ∧ c.dst = node ∧ 0 ≤ gi f c.src ∧ earr c (gi f c.src) n ≠ -1 ∧ earr c (gi f c.src) n = time := by
  have h1 := bestC_some cons 0 none rfl (fun i c h => by cases h) i c h
  have h2 := h1.2
  simp only [cand, decide_eq_true_eq] at h2
  exact ⟨h1.1, List.mem_of_getElem? h1.1, h2⟩
theorem lastC_ex {f : List Int} {n node time : Int} {cons : List Con} {c : Con} (hc : c ∈ cons) (h : cand f n node time c = true) : ∃ i d, lastC f n node time cons = some (i, d) := by
  cases hl : lastC f n node time cons with
  | some x => exact ⟨x.1, x.2, rfl⟩
  | none =>
    have := (bestC_keep cons 0 none hl).2 c hc
    rw [this] at h; cases h

/-- A foremost journey, from its end to its begin. -/
inductive JP (cons : List Con) (f : List Int) (n src : Int) : Int → List Hp → Prop where
  | done : JP cons f n src src []
  | step {a : Int} {i : Nat} {c : Con} {l : List Hp} : a ≠ src → lastC f n a (gi f a) cons = some (i, c) → JP cons f n src c.src l → JP cons f n src a (hopAt i c (gi f c.src) n :: l)
theorem JP.unique {cons : List Con} {f : List Int} {n src a : Int} {l l' : List Hp} (h : JP cons f n src a l) : JP cons f n src a l' → l = l' := by
  induction h generalizing l' with
  | done =>
    intro h
    cases h with
    | done => rfl
    | step h1 => exact absurd rfl h1
  | step h1 h2 _ ih =>
    intro h
    cases h with
    | done => exact absurd rfl h1
    | step g1 g2 g3 =>
      rw [h2] at g2
      injection g2 with g2
      injection g2 with e1 e2
      subst e1 e2
      rw [ih g3]
theorem JP.split {cons : List Con} {f : List Int} {n src a : Int} {l : List Hp} (h : JP cons f n src a l) (ha : a ≠ src) : ∃ i c l', lastC f n a (gi f a) cons = some (i, c) ∧ l = hopAt i c (gi f c.src) n :: l' := by
  cases h with
  | done => exact absurd rfl ha
  | step h1 h2 h3 => exact ⟨_, _, _, h2, rfl⟩
section
variable {N : Nat} {cons : List Con} {n src t0 : Int} {m : List Int}
theorem JP.found (J : JC N cons n src t0) (h : Least N (RA cons n src t0) m) {a : Int} (h0 : 0 ≤ a) (hN : a < N) (hne : a ≠ src) (hg : 0 ≤ gi m a) : ∃ i c, lastC m n a (gi m a) cons = some (i, c) := by
  rcases h.sup J hg h0 hN with ⟨e, _⟩ | ⟨c, hc, e1, e2, e3, e4⟩
  · exact absurd e hne
  · exact lastC_ex hc (by simp only [cand, decide_eq_true_eq]; exact ⟨e1, e2, by omega, e3⟩)
theorem lastC_lt (J : JC N cons n src t0) {f : List Int} {a time : Int} {i : Nat} {c : Con} (h : lastC f n a time cons = some (i, c)) : 0 ≤ c.src ∧ c.src < N ∧ 0 ≤ gi f c.src ∧ gi f c.src + 2 ≤ time := by
  have h1 := lastC_spec h
  have hok := J.con c h1.2.1
  rcases earr_cases (t := gi f c.src) hok.1 ⟨J.n1, J.n2⟩ with g | ⟨g1, g2, g3, g4, g5, g6⟩
  · exact absurd g.1 h1.2.2.2.2.1
  · exact ⟨hok.1.src0, hok.2.1, h1.2.2.2.1, by omega⟩
/-- A foremost journey is one. -/
theorem JP.reach {f : List Int} (J : JC N cons n src t0) {a : Int} {l : List Hp} (h : JP cons f n src a l) (hs : gi f src = t0) : RK cons n src t0 l.length a (gi f a) := by
  induction h with
  | done => rw [hs]; exact .start 0
  | step h1 h2 _ ih =>
    have h3 := lastC_spec h2
    have := RK.step ih h3.2.1 rfl h3.2.2.2.2.1
    rw [h3.2.2.1, h3.2.2.2.2.2] at this
    exact this
end

/-- A journey with k hops out of the rounds, from its end to its begin. -/
inductive FP (cons : List Con) (R : Nat → List Int) (n : Int) : Nat → Int → List Hp → Prop where
  | done {a : Int} : FP cons R n 0 a []
  | step {k : Nat} {a : Int} {i : Nat} {c : Con} {l : List Hp} : lastC (R k) n a (gi (R (k + 1)) a) cons = some (i, c) → FP cons R n k c.src l → FP cons R n (k + 1) a (hopAt i c (gi (R k) c.src) n :: l)
theorem FP.unique {cons : List Con} {R : Nat → List Int} {n : Int} : ∀ {k : Nat} {a : Int} {l l' : List Hp}, FP cons R n k a l → FP cons R n k a l' → l = l'
  | 0, _, _, _, .done, .done => rfl
  | k + 1, _, _, _, .step h1 h2, .step g1 g2 => by
    rw [h1] at g1
    injection g1 with g1
    injection g1 with e1 e2
    subst e1 e2
    rw [FP.unique h2 g2]
theorem FP.len {cons : List Con} {R : Nat → List Int} {n : Int} : ∀ {k : Nat} {a : Int} {l : List Hp}, FP cons R n k a l → l.length = k
  | 0, _, _, .done => rfl
  | k + 1, _, _, .step _ h => by rw [List.length_cons, FP.len h]

section
variable {N : Nat} {cons : List Con} {n src t0 : Int}
def Rr (N : Nat) (cons : List Con) (n src t0 : Int) (k : Nat) : List Int := rnds cons n (lstart N src t0) k
theorem Rr.least (J : JC N cons n src t0) (k : Nat) : Least N (RK cons n src t0 k) (Rr N cons n src t0 k) := rnds_least J k
theorem Rr.down (J : JC N cons n src t0) {j k : Nat} (h : j ≤ k) {a : Int} (h0 : 0 ≤ a) (hN : a < N) (hg : 0 ≤ gi (Rr N cons n src t0 j) a) : 0 ≤ gi (Rr N cons n src t0 k) a ∧ gi (Rr N cons n src t0 k) a ≤ gi (Rr N cons n src t0 j) a := by
  rcases (Rr.least J j).snd a h0 hN with e | e
  · omega
  · have := e.more (k - j)
    rw [show j + (k - j) = k by omega] at this
    exact (Rr.least J k).best _ _ this
/-- The node a is reached in round k, earlier than before. -/
def FS (N : Nat) (cons : List Con) (n src t0 : Int) (k : Nat) (a : Int) : Prop :=
  0 ≤ a ∧ a < N ∧ 0 ≤ gi (Rr N cons n src t0 k) a ∧ ∀ j, j + 1 = k → gi (Rr N cons n src t0 j) a = -1 ∨ gi (Rr N cons n src t0 k) a < gi (Rr N cons n src t0 j) a
theorem FS.zero (J : JC N cons n src t0) {a : Int} (h : FS N cons n src t0 0 a) : a = src ∧ gi (Rr N cons n src t0 0) a = t0 := by
  rcases (Rr.least J 0).snd a h.1 h.2.1 with e | e
  · have := h.2.2.1; omega
  · exact e.zero
theorem FS.found (J : JC N cons n src t0) {k : Nat} {a : Int} (h : FS N cons n src t0 (k + 1) a) : ∃ i c, lastC (Rr N cons n src t0 k) n a (gi (Rr N cons n src t0 (k + 1)) a) cons = some (i, c) := by
  obtain ⟨h0, hN, hg, hs⟩ := h
  have hk := Rr.least J k
  rcases (Rr.least J (k + 1)).snd a h0 hN with e | e
  · omega
  · generalize hT : gi (Rr N cons n src t0 (k + 1)) a = T at *
    cases e with
    | start =>
      have := hk.best _ _ (.start k)
      have := hs k rfl
      omega
    | step hr hcm hsr he =>
      rename_i j t c
      subst hsr
      have h1 := hk.best _ _ hr
      have h2 := earr_mono (J.con c hcm).1 h1.2 J.n1 (Int.le_refl n) J.n2 he
      rcases hk.snd c.src (J.con c hcm).1.src0 (J.con c hcm).2.1 with g | g
      · omega
      · have h3 := (Rr.least J (k + 1)).best _ _ (.step g hcm rfl h2.1)
        exact lastC_ex hcm (by simp only [cand, decide_eq_true_eq]; exact ⟨by trivial, h1.1, h2.1, by omega⟩)
theorem FS.prev (J : JC N cons n src t0) {k : Nat} {a : Int} (h : FS N cons n src t0 (k + 1) a) {i : Nat} {c : Con} (hl : lastC (Rr N cons n src t0 k) n a (gi (Rr N cons n src t0 (k + 1)) a) cons = some (i, c)) : FS N cons n src t0 k c.src := by
  have h1 := lastC_spec hl
  have hok := J.con c h1.2.1
  refine ⟨hok.1.src0, hok.2.1, h1.2.2.2.1, fun j hj => ?_⟩
  subst hj
  have hj := Rr.least J j
  rcases hj.snd c.src hok.1.src0 hok.2.1 with g | g
  · exact .inl g
  · right
    apply Classical.byContradiction
    intro hh
    have h2 := hj.best _ _ g
    have h3 := Rr.down J (show j ≤ j + 1 by omega) hok.1.src0 hok.2.1 h2.1
    have e : gi (Rr N cons n src t0 (j + 1)) c.src = gi (Rr N cons n src t0 j) c.src := by omega
    have h5 := h1.2.2.2.2
    rw [e] at h5
    have h6 := (Rr.least J (j + 1)).best _ _ (.step g h1.2.1 rfl h5.1)
    rw [h1.2.2.1, h5.2] at h6
    have := h.2.2.2 (j + 1) rfl
    omega
end

/-- A time by which the destination is reached in time. -/
def inT (q : Req) (m : List Int) : Bool := decide (0 ≤ gi m q.dst ∧ gi m q.dst ≤ q.dead)
theorem Req.argF {p : Pln} {q : Req} (h : q.okB p.quo.length = true) : p.argF q.src q.ready q.size = true := by
  simp only [Req.okB, decide_eq_true_eq] at h
  simp only [Pln.argF, decide_eq_true_eq]
  omega
theorem Req.jc {p : Pln} {q : Req} (h : p.Ok) (hq : q.okB p.quo.length = true) : JC p.quo.length p.cons q.size q.src q.ready := Pln.jc h (Req.argF hq)
def Pln.arrQ (p : Pln) (q : Req) : List Int := p.arrs q.src q.ready q.size
def Pln.RrQ (p : Pln) (q : Req) (k : Nat) : List Int := Rr p.quo.length p.cons q.size q.src q.ready k
theorem Pln.arrQ_least {p : Pln} {q : Req} (h : p.Ok) (hq : q.okB p.quo.length = true) : Least p.quo.length (RA p.cons q.size q.src q.ready) (p.arrQ q) := Pln.arrs_least h (Req.argF hq)

/-- What Find returns. -/
def JFind (p : Pln) (q : Req) (l : List Hp) (e : Int) : Prop :=
  if p.chk = 0 ∧ q.okB p.quo.length = true then (if inT q (p.arrQ q) then e = 0 ∧ ∃ b, JP p.cons (p.arrQ q) q.size q.src q.dst b ∧ l = b.reverse else e = 18 ∧ l = []) else e = 1 ∧ l = []
theorem JFind.unique {p : Pln} {q : Req} {l l' : List Hp} {e e' : Int} (h : JFind p q l e) (h' : JFind p q l' e') : l = l' ∧ e = e' := by
  unfold JFind at h h'
  split at h
  · rename_i h0
    rw [if_pos h0] at h'
    split at h
    · rename_i h1
      rw [if_pos h1] at h'
      obtain ⟨rfl, b, hb, rfl⟩ := h
      obtain ⟨rfl, b', hb', rfl⟩ := h'
      rw [hb.unique hb']; exact ⟨rfl, rfl⟩
    · rename_i h1
      rw [if_neg h1] at h'
      exact ⟨by rw [h.2, h'.2], by rw [h.1, h'.1]⟩
  · rename_i h0
    rw [if_neg h0] at h'
    exact ⟨by rw [h.2, h'.2], by rw [h.1, h'.1]⟩
/-- What Fewest returns. -/
def JFew (p : Pln) (q : Req) (l : List Hp) (e : Int) : Prop :=
  if p.chk = 0 ∧ q.okB p.quo.length = true then
    (e = 18 ∧ l = [] ∧ ∀ j, j ≤ p.quo.length → inT q (p.RrQ q j) = false) ∨
    (e = 0 ∧ ∃ k b, k ≤ p.quo.length ∧ inT q (p.RrQ q k) = true ∧ (∀ j, j < k → inT q (p.RrQ q j) = false) ∧ FP p.cons (p.RrQ q) q.size k q.dst b ∧ l = b.reverse)
  else e = 1 ∧ l = []
theorem JFew.unique {p : Pln} {q : Req} {l l' : List Hp} {e e' : Int} (h : JFew p q l e) (h' : JFew p q l' e') : l = l' ∧ e = e' := by
  unfold JFew at h h'
  split at h
  · rename_i h0
    rw [if_pos h0] at h'
    rcases h with ⟨rfl, rfl, h⟩ | ⟨rfl, k, b, h1, h2, h3, h4, rfl⟩
    · rcases h' with ⟨rfl, rfl, h'⟩ | ⟨rfl, k, b, h1, h2, h3, h4, rfl⟩
      · exact ⟨rfl, rfl⟩
      · have := h k h1; rw [this] at h2; cases h2
    · rcases h' with ⟨rfl, rfl, h'⟩ | ⟨rfl, k', b', g1, g2, g3, g4, rfl⟩
      · have := h' k h1; rw [this] at h2; cases h2
      · have e : k = k' := by
          rcases Nat.lt_trichotomy k k' with hh | hh | hh
          · have := g3 k hh; rw [this] at h2; cases h2
          · exact hh
          · have := h3 k' hh; rw [this] at g2; cases g2
        subst e
        rw [h4.unique g4]; exact ⟨rfl, rfl⟩
  · rename_i h0
    rw [if_neg h0] at h'
    exact ⟨by rw [h.2, h'.2], by rw [h.1, h'.1]⟩

/-- The contact of a hop. -/
def gc (cons : List Con) (i : Int) : Con := cons.getD i.toNat ⟨0, 0, 0, 0, 0, 0, 0⟩
theorem gc_of {cons : List Con} {i : Nat} {c : Con} (h : cons[i]? = some c) : gc cons (i : Int) = c := by simp [gc, h]
theorem gc_get {cons : List Con} {i : Int} (h : i.toNat < cons.length) : gc cons i = cons[i.toNat] := by simp [gc, h]
def seenB (seen : List Int) (x : Int) : Bool := seen.any (fun y => y == x)
/-- Why hops from a node on are no journey. -/
def chkL (cons : List Con) (n dest D : Int) : Int → Int → List Int → List Hp → Int
  | a, now, _, [] => if a ≠ dest then 10 else if D < now then 16 else 0
  | a, now, seen, h :: l =>
    if h.con < 0 ∨ cons.length ≤ h.con then 2
    else if (gc cons h.con).src ≠ a then 10
    else if seenB seen (gc cons h.con).dst then 27
    else if h.beg < now then 9
    else if (gc cons h.con).fitsB h.beg n = false then 16
    else if h.en ≠ h.beg + (gc cons h.con).dur n ∨ h.arr ≠ h.en + (gc cons h.con).rng then 24
    else chkL cons n dest D (gc cons h.con).dst h.arr (seen ++ [(gc cons h.con).dst]) l
def Pln.jchk (p : Pln) (q : Req) (l : List Hp) : Int := if p.chk = 0 ∧ q.okB p.quo.length = true then (if l.length = 0 then 20 else chkL p.cons q.size q.dst q.dead q.src q.ready [q.src] l) else 1

theorem seenB_iff {seen : List Int} {x : Int} : seenB seen x = true ↔ x ∈ seen := by simp [seenB]
/-- A hop that begins as early as possible passes. -/
theorem chkL_hop {N : Nat} {cons : List Con} {n src t0 dest D : Int} (J : JC N cons n src t0) {i : Nat} {c : Con} {now t : Int} {seen : List Int} {l : List Hp} (hi : cons[i]? = some c) (he : earr c t n ≠ -1) (hnow : now ≤ t) (hs : c.dst ∉ seen) :
    chkL cons n dest D c.src now seen (hopAt i c t n :: l) = chkL cons n dest D c.dst (earr c t n) (seen ++ [c.dst]) l := by
  have hok := J.con c (List.mem_of_getElem? hi)
  have hlt : i < cons.length := (List.getElem?_eq_some_iff.1 hi).1
  have hg := gc_of hi
  have hb := beg_ge c t
  have hsb : seenB seen c.dst = false := by
    cases h : seenB seen c.dst
    · rfl
    · exact absurd (seenB_iff.1 h) hs
  have ha := hopAt_arr (i := i) he
  rcases earr_cases (t := t) hok.1 ⟨J.n1, J.n2⟩ with g | ⟨g1, g2, g3, g4, g5, g6⟩
  · exact absurd g.1 he
  · have e : (hopAt i c t n).con = i := rfl
    have e2 : (hopAt i c t n).beg = c.beg t := rfl
    have e3 : (hopAt i c t n).en = c.beg t + c.dur n := rfl
    simp only [chkL, e, e2, e3, hg, ha]
    rw [if_neg (by omega), if_neg (by simp), hsb, if_neg (by simp), if_neg (by omega), g1, if_neg (by simp), if_neg (by omega)]

/-- A foremost journey passes, up to each node. -/
theorem JP.chk {N : Nat} {cons : List Con} {n src t0 dest D : Int} {m : List Int} (J : JC N cons n src t0) (hs : gi m src = t0) {a : Int} {l : List Hp} (h : JP cons m n src a l) :
    0 ≤ gi m a ∧ ∃ seen, (∀ x ∈ seen, gi m x ≤ gi m a) ∧ ∀ rest, chkL cons n dest D src t0 [src] (l.reverse ++ rest) = chkL cons n dest D a (gi m a) seen rest := by
  induction h with
  | done => exact ⟨by rw [hs]; exact J.r0, [src], fun x hx => by rw [List.mem_singleton.1 hx]; exact Int.le_refl _, fun rest => by rw [hs]; rfl⟩
  | step h1 h2 h5 ih =>
    rename_i a i c l
    obtain ⟨h0, seen, hseen, hrest⟩ := ih
    have h3 := lastC_spec h2
    have h4 := lastC_lt J h2
    refine ⟨by omega, seen ++ [a], fun x hx => ?_, fun rest => ?_⟩
    · rcases List.mem_append.1 hx with hx | hx
      · have := hseen x hx; omega
      · rw [List.mem_singleton.1 hx]; exact Int.le_refl _
    · rw [List.reverse_cons, List.append_assoc, List.singleton_append, hrest, chkL_hop J h3.1 h3.2.2.2.2.1 (Int.le_refl _) (fun hm => by
        have := hseen _ hm; rw [h3.2.2.1] at this; omega), h3.2.2.1, h3.2.2.2.2.2]
/-- A journey out of the rounds passes. -/
theorem FP.chk {N : Nat} {cons : List Con} {n src t0 dest D : Int} (J : JC N cons n src t0) : ∀ {k : Nat} {a : Int} {l : List Hp}, FP cons (Rr N cons n src t0) n k a l → FS N cons n src t0 k a →
    ∃ seen : List Int, (∀ x ∈ seen, ∃ j, j ≤ k ∧ 0 ≤ x ∧ x < N ∧ 0 ≤ gi (Rr N cons n src t0 j) x ∧ gi (Rr N cons n src t0 j) x ≤ gi (Rr N cons n src t0 k) a) ∧
      ∀ rest, chkL cons n dest D src t0 [src] (l.reverse ++ rest) = chkL cons n dest D a (gi (Rr N cons n src t0 k) a) seen rest
  | 0, a, _, .done, h => by
    obtain ⟨rfl, e⟩ := h.zero J
    refine ⟨[a], fun x hx => ?_, fun rest => by rw [e]; rfl⟩
    rw [List.mem_singleton.1 hx]
    exact ⟨0, Nat.le_refl _, h.1, h.2.1, h.2.2.1, Int.le_refl _⟩
  | k + 1, a, _, .step (i := i) (c := c) (l := l) h2 hp, h => by
    obtain ⟨seen, hseen, hrest⟩ := FP.chk (dest := dest) (D := D) J hp (h.prev J h2)
    have h3 := lastC_spec h2
    have h4 := lastC_lt J h2
    refine ⟨seen ++ [a], fun x hx => ?_, fun rest => ?_⟩
    · rcases List.mem_append.1 hx with hx | hx
      · obtain ⟨j, g1, g2, g3, g4, g5⟩ := hseen x hx
        exact ⟨j, by omega, g2, g3, g4, by omega⟩
      · rw [List.mem_singleton.1 hx]
        exact ⟨k + 1, Nat.le_refl _, h.1, h.2.1, h.2.2.1, Int.le_refl _⟩
    · rw [List.reverse_cons, List.append_assoc, List.singleton_append, hrest, chkL_hop J h3.1 h3.2.2.2.2.1 (Int.le_refl _) (fun hm => by
        obtain ⟨j, g1, g2, g3, g4, g5⟩ := hseen _ hm
        rw [h3.2.2.1] at g4 g5
        have := Rr.down J (show j ≤ k + 1 by omega) h.1 h.2.1 g4
        omega), h3.2.2.1, h3.2.2.2.2.2]
theorem inT_up {p : Pln} {q : Req} (h : p.Ok) (hq : q.okB p.quo.length = true) {j k : Nat} (hjk : j ≤ k) (hj : inT q (p.RrQ q j) = true) : inT q (p.RrQ q k) = true := by
  have J := Req.jc h hq
  simp only [Req.okB, decide_eq_true_eq] at hq
  simp only [inT, decide_eq_true_eq] at hj ⊢
  have := Rr.down J hjk hq.2.2.1 hq.2.2.2.1 hj.1
  unfold Pln.RrQ at *
  omega
/-- The rounds end where no more is reached. -/
theorem Pln.RrQ_all {p : Pln} {q : Req} (h : p.Ok) (hq : q.okB p.quo.length = true) {k : Nat} (hk : p.quo.length ≤ k + 1) : p.RrQ q k = p.arrQ q :=
  (rnds_all (Req.jc h hq) hk).unique (Pln.arrQ_least h hq)
/-- The first round in time. -/
theorem FS.first {p : Pln} {q : Req} (h : p.Ok) (hq : q.okB p.quo.length = true) {k : Nat} (hk : inT q (p.RrQ q k) = true) (hb : ∀ j, j < k → inT q (p.RrQ q j) = false) : FS p.quo.length p.cons q.size q.src q.ready k q.dst := by
  have J := Req.jc h hq
  simp only [Req.okB, decide_eq_true_eq] at hq
  simp only [inT, decide_eq_true_eq] at hk
  refine ⟨hq.2.2.1, hq.2.2.2.1, hk.1, fun j hj => ?_⟩
  have h1 := hb j (by omega)
  simp only [inT, decide_eq_false_iff_not] at h1
  rcases (Rr.least J j).snd q.dst hq.2.2.1 hq.2.2.2.1 with e | e
  · exact .inl e
  · have := (Rr.least J j).best _ _ e
    unfold Pln.RrQ at *
    omega
theorem FS.pos {p : Pln} {q : Req} (h : p.Ok) (hq : q.okB p.quo.length = true) {k : Nat} (hf : FS p.quo.length p.cons q.size q.src q.ready k q.dst) : k ≠ 0 := by
  rintro rfl
  have J := Req.jc h hq
  have := (hf.zero J).1
  simp only [Req.okB, decide_eq_true_eq] at hq
  omega

/-- What Check returns on what Find and Fewest return. -/
theorem JFind.chk {p : Pln} {q : Req} {l : List Hp} {e : Int} (h : JFind p q l e) (h0 : p.chk = 0) (hq : q.okB p.quo.length = true) :
    if inT q (p.arrQ q) then e = 0 ∧ p.jchk q l = 0 ∧ ∃ pre x, l = pre ++ [x] ∧ x.arr = gi (p.arrQ q) q.dst else e = 18 ∧ l = [] := by
  have hok := Pln.ok_of h0
  have J := Req.jc hok hq
  have hl := Pln.arrQ_least hok hq
  unfold JFind at h
  rw [if_pos ⟨h0, hq⟩] at h
  split at h
  · rename_i hi
    rw [if_pos hi]
    obtain ⟨rfl, b, hb, rfl⟩ := h
    have hs := hl.srcT J
    simp only [inT, decide_eq_true_eq] at hi
    have hq2 := hq
    simp only [Req.okB, decide_eq_true_eq] at hq2
    refine ⟨rfl, ?_, ?_⟩
    · obtain ⟨_, seen, _, hrest⟩ := JP.chk (dest := q.dst) (D := q.dead) J hs hb
      have h1 := hrest []
      rw [List.append_nil] at h1
      unfold Pln.jchk
      rw [if_pos ⟨h0, hq⟩, if_neg, h1]
      · simp only [chkL]
        rw [if_neg (by simp), if_neg (by omega)]
      · obtain ⟨i, c, l', g1, rfl⟩ := hb.split (by omega)
        simp
    · obtain ⟨i, c, l', g1, rfl⟩ := hb.split (by omega)
      have h4 := lastC_spec g1
      refine ⟨_, _, List.reverse_cons, ?_⟩
      rw [hopAt_arr h4.2.2.2.2.1, h4.2.2.2.2.2]
  · rename_i hi
    rw [if_neg hi]; exact h
theorem JFew.chk {p : Pln} {q : Req} {l : List Hp} {e : Int} (h : JFew p q l e) (h0 : p.chk = 0) (hq : q.okB p.quo.length = true) :
    if inT q (p.arrQ q) then e = 0 ∧ p.jchk q l = 0 ∧ l.length < p.quo.length ∧ 1 ≤ l.length ∧ (∀ j, j < l.length → inT q (p.RrQ q j) = false) else e = 18 ∧ l = [] := by
  have hok := Pln.ok_of h0
  have J := Req.jc hok hq
  have n1 := hok.n1
  unfold JFew at h
  rw [if_pos ⟨h0, hq⟩] at h
  have hall := Pln.RrQ_all hok hq (k := p.quo.length - 1) (by omega)
  split
  · rename_i hi
    rw [← hall] at hi
    rcases h with ⟨rfl, rfl, h⟩ | ⟨rfl, k, b, h1, h2, h3, h4, rfl⟩
    · have := h (p.quo.length - 1) (by omega)
      rw [this] at hi; cases hi
    · have hf := FS.first hok hq h2 h3
      have hp := hf.pos hok hq
      have hlen := h4.len
      refine ⟨rfl, ?_, ?_, ?_, ?_⟩
      · obtain ⟨seen, _, hrest⟩ := FP.chk (dest := q.dst) (D := q.dead) J h4 hf
        have g1 := hrest []
        rw [List.append_nil] at g1
        unfold Pln.jchk
        rw [if_pos ⟨h0, hq⟩, if_neg (by simp; intro hb; rw [hb] at hlen; simp at hlen; omega), g1]
        simp only [inT, decide_eq_true_eq] at h2
        unfold Pln.RrQ at h2
        simp only [chkL]
        rw [if_neg (by simp), if_neg (by omega)]
      · rw [List.length_reverse, hlen]
        apply Classical.byContradiction
        intro hh
        have := h3 (p.quo.length - 1) (by omega)
        rw [this] at hi; cases hi
      · rw [List.length_reverse, hlen]; omega
      · rw [List.length_reverse, hlen]; exact h3
  · rename_i hi
    rcases h with ⟨rfl, rfl, h⟩ | ⟨rfl, k, b, h1, h2, h3, h4, rfl⟩
    · exact ⟨rfl, rfl⟩
    · exfalso
      apply hi
      rw [← Pln.RrQ_all hok hq (k := p.quo.length) (by omega)]
      exact inT_up hok hq h1 h2
/-- Find has at least as many hops as Fewest. -/
theorem JFind.more {p : Pln} {q : Req} {l m : List Hp} {e f : Int} (h : JFind p q l e) (h' : JFew p q m f) (h0 : p.chk = 0) (hq : q.okB p.quo.length = true) : e = f ∧ (e = 0 → m.length ≤ l.length) := by
  have hok := Pln.ok_of h0
  have J := Req.jc hok hq
  have hl := Pln.arrQ_least hok hq
  have g := h.chk h0 hq
  have g' := h'.chk h0 hq
  by_cases hi : inT q (p.arrQ q) = true
  · rw [if_pos hi] at g g'
    refine ⟨by rw [g.1, g'.1], fun _ => ?_⟩
    unfold JFind at h
    rw [if_pos ⟨h0, hq⟩, if_pos hi] at h
    obtain ⟨_, b, hb, rfl⟩ := h
    have hr := hb.reach J (hl.srcT J)
    have h1 := (Rr.least J b.length).best _ _ hr
    simp only [inT, decide_eq_true_eq] at hi
    apply Classical.byContradiction
    intro hh
    have h2 := g'.2.2.2.2 b.length (by rw [List.length_reverse] at hh; omega)
    simp only [inT, decide_eq_false_iff_not] at h2
    unfold Pln.RrQ at h2
    omega
  · rw [if_neg hi] at g g'
    exact ⟨by rw [g.1, g'.1], fun e0 => by omega⟩
end Go.Proofs.YtemkpimngbbpkaaGreat

/- Layers 24 and 25 beside each other: earliest arrivals and latest times are each other's mirror. -/
namespace Go.Proofs.YtemkpimngbbpkaaGreat
set_option linter.unusedVariables false
set_option linter.unusedSimpArgs false
set_option linter.unusedVariables false
open Go.RowKit

/-- What arrives in time has left in time. -/
theorem mir_le {p : Pln} {dest D n src t0 : Int} (h : p.Ok) (ha : p.argB dest D n = true) {k : Nat} {i t : Int} (hr : RK p.cons n src t0 k i t) : t ≤ gi (p.times dest D n) i → t0 ≤ gi (p.times dest D n) src := by
  have hinv := Pln.times_inv h ha
  have ha2 := ha
  simp only [Pln.argB, decide_eq_true_eq] at ha2
  induction hr with
  | start k => exact id
  | step hr hc hi he ih =>
    rename_i k i t c
    intro hle
    apply ih
    subst hi
    have hok := h.con c hc
    have hcs := (earr_cases (t := t) hok.1 ⟨ha2.2.2.2.2.1, ha2.2.2.2.2.2⟩).resolve_left (fun g => he g.1)
    obtain ⟨g1, g2, g3, g4, g5, g6⟩ := hcs
    have hb := beg_ge c t
    have hd0 := hok.1.dst0
    have hdD := hinv.1.hi _ (gi_mem (m := p.times dest D n) (i := c.dst) (by rw [hinv.1.len]; have := hok.2.2; omega))
    by_cases e : c.src = dest
    · rw [e, hinv.1.dst]; omega
    · have h1 := hinv.2 c hc e
      have h2 := lbeg_most (c := c) (t := gi (p.times dest D n) c.dst) (size := n) (b := c.beg t) (by omega) hb.2 g2 (by omega)
      omega
/-- What leaves in time can arrive in time. -/
theorem mir_ge {p : Pln} {dest D n : Int} (h : p.Ok) (ha : p.argB dest D n = true) : ∀ (m : Nat) (i t : Int), 0 ≤ i → i < p.quo.length → 0 ≤ t → t ≤ gi (p.times dest D n) i → (D - gi (p.times dest D n) i).toNat ≤ m → ∃ a, a ≤ D ∧ RA p.cons n i t dest a := by
  have hinv := Pln.times_inv h ha
  have ha2 := ha
  simp only [Pln.argB, decide_eq_true_eq] at ha2
  have key : ∀ (i t : Int) (c : Con) (a : Int), c ∈ p.cons → c.src = i → earr c t n ≠ -1 → RA p.cons n c.dst (earr c t n) dest a → RA p.cons n i t dest a := by
    intro i t c a hc hi he ⟨k, hr⟩
    have : ∀ {k : Nat} {j s : Int}, RK p.cons n c.dst (earr c t n) k j s → RK p.cons n i t (k + 1) j s := by
      intro k j s hr
      induction hr with
      | start k =>
        have h1 := RK.step (RK.start (cons := p.cons) (n := n) (src := i) (t0 := t) 0) hc hi he
        have h2 := h1.more k
        rw [show 0 + 1 + k = k + 1 by omega] at h2
        exact h2
      | step hr hc hi he ih => exact .step ih hc hi he
    exact ⟨_, this hr⟩
  intro m
  induction m with
  | zero =>
    intro i t h0 h1 h2 h3 h4
    by_cases e : i = dest
    · subst e; exact ⟨t, by rw [hinv.1.dst] at h3; exact h3, ⟨0, .start 0⟩⟩
    · obtain ⟨c, hc, e1, e2⟩ := Pln.times_sup h ha h0 h1 e (by omega)
      have hok := h.con c hc
      have hd0 := hok.1.dst0
      have hdD := hinv.1.hi _ (gi_mem (m := p.times dest D n) (i := c.dst) (by rw [hinv.1.len]; have := hok.2.2; omega))
      have d := Con.dur_bd hok.1 ha2.2.2.2.2.1 ha2.2.2.2.2.2
      have := hok.1.rng0
      rcases lbeg_cases c (gi (p.times dest D n) c.dst) n with g | ⟨g1, g2, g3, g4, g5⟩ <;> omega
  | succ m ih =>
    intro i t h0 h1 h2 h3 h4
    by_cases e : i = dest
    · subst e; exact ⟨t, by rw [hinv.1.dst] at h3; exact h3, ⟨0, .start 0⟩⟩
    · obtain ⟨c, hc, e1, e2⟩ := Pln.times_sup h ha h0 h1 e (by omega)
      have hok := h.con c hc
      have hd0 := hok.1.dst0
      have d := Con.dur_bd hok.1 ha2.2.2.2.2.1 ha2.2.2.2.2.2
      have hr := hok.1.rng0
      have hb := beg_ge c t
      rcases lbeg_cases c (gi (p.times dest D n) c.dst) n with g | ⟨g1, g2, g3, g4, g5⟩
      · omega
      · have hbl : c.beg t ≤ lbeg c (gi (p.times dest D n) c.dst) n := by unfold Con.beg; split <;> omega
        have hf : c.fitsB (c.beg t) n = true := by simp only [Con.fitsB, decide_eq_true_eq]; omega
        have he : earr c t n = c.beg t + c.dur n + c.rng := by unfold earr; rw [if_pos hf]
        obtain ⟨a, ha1, ha3⟩ := ih c.dst (earr c t n) hd0 hok.2.2 (by omega) (by omega) (by omega)
        exact ⟨a, ha1, key i t c a hc e1 (by have := hok.1.st0; omega) ha3⟩

/-- The earliest arrival, and the latest time that leaves for it. -/
def Pln.ear (p : Pln) (src dst n t : Int) : Int := gi (p.arrs src t n) dst
def Pln.lat (p : Pln) (src dst n a : Int) : Int := gi (p.times dst a n) src
structure PA (p : Pln) (src dst n : Int) : Prop where
  ok : p.Ok
  s0 : 0 ≤ src
  s1 : src < p.quo.length
  d0 : 0 ≤ dst
  d1 : dst < p.quo.length
  ne : src ≠ dst
  n0 : 1 ≤ n
  n1 : n ≤ 65536
section
variable {p : Pln} {src dst n : Int}
theorem PA.argF (h : PA p src dst n) {t : Int} (h0 : 0 ≤ t) (h1 : t ≤ 1099511627776) : p.argF src t n = true := by
  simp only [Pln.argF, decide_eq_true_eq]; exact ⟨h.s0, h.s1, h0, h1, h.n0, h.n1⟩
theorem PA.argB (h : PA p src dst n) {a : Int} (h0 : 0 ≤ a) (h1 : a ≤ 1099511627776) : p.argB dst a n = true := by
  simp only [Pln.argB, decide_eq_true_eq]; exact ⟨h.d0, h.d1, h0, h1, h.n0, h.n1⟩
theorem PA.least (h : PA p src dst n) {t : Int} (h0 : 0 ≤ t) (h1 : t ≤ 1099511627776) : Least p.quo.length (RA p.cons n src t) (p.arrs src t n) := Pln.arrs_least h.ok (h.argF h0 h1)
theorem PA.jc (h : PA p src dst n) {t : Int} (h0 : 0 ≤ t) (h1 : t ≤ 1099511627776) : JC p.quo.length p.cons n src t := Pln.jc h.ok (h.argF h0 h1)
/-- An arrival elsewhere takes time. -/
theorem PA.ra (h : PA p src dst n) {t a : Int} (h0 : 0 ≤ t) (h1 : t ≤ 1099511627776) (hr : RA p.cons n src t dst a) : t + 2 ≤ a ∧ a ≤ 1099511627776 := by
  have J := h.jc h0 h1
  obtain ⟨k, hr⟩ := hr
  have hb := hr.rng J
  generalize hd : dst = d at hr
  cases hr with
  | start => exact absurd hd.symm h.ne
  | step hr hc hi he =>
    rename_i i t' c
    have hb2 := hr.rng J
    have hok := (J.con c hc).1
    have hcs := (earr_cases (t := t') hok ⟨h.n0, h.n1⟩).resolve_left (fun g => he g.1)
    omega
theorem PA.ear_cases (h : PA p src dst n) {t : Int} (h0 : 0 ≤ t) (h1 : t ≤ 1099511627776) : p.ear src dst n t = -1 ∨ (RA p.cons n src t dst (p.ear src dst n t) ∧ t + 2 ≤ p.ear src dst n t ∧ p.ear src dst n t ≤ 1099511627776) := by
  rcases (h.least h0 h1).snd dst h.d0 h.d1 with e | e
  · exact .inl e
  · exact .inr ⟨e, h.ra h0 h1 e⟩
/-- The latest time for the earliest arrival is no earlier than the time. -/
theorem PA.lat_ge (h : PA p src dst n) {t a : Int} (h0 : 0 ≤ t) (h1 : t ≤ 1099511627776) (hr : p.ear src dst n t ≠ -1) (hle : p.ear src dst n t ≤ a) (ha : a ≤ 1099511627776) : t ≤ p.lat src dst n a := by
  rcases h.ear_cases h0 h1 with e | ⟨⟨k, e⟩, e2, e3⟩
  · exact absurd e hr
  · have hB := h.argB (a := a) (by omega) ha
    exact mir_le h.ok hB e (by rw [(Pln.times_inv h.ok hB).1.dst]; exact hle)
theorem PA.lat_rng (h : PA p src dst n) {a : Int} (h0 : 0 ≤ a) (h1 : a ≤ 1099511627776) : -1 ≤ p.lat src dst n a ∧ p.lat src dst n a ≤ a := by
  have hinv := (Pln.times_inv h.ok (h.argB h0 h1)).1
  have hm := gi_mem (m := p.times dst a n) (i := src) (by rw [hinv.len]; have := h.s0; have := h.s1; omega)
  exact ⟨hinv.lo _ hm, hinv.hi _ hm⟩
/-- Whoever is ready at that time, or earlier, can be there. -/
theorem PA.ear_le (h : PA p src dst n) {t a : Int} (h0 : 0 ≤ t) (ha0 : 0 ≤ a) (ha : a ≤ 1099511627776) (hle : t ≤ p.lat src dst n a) : p.ear src dst n t ≠ -1 ∧ 0 ≤ p.ear src dst n t ∧ p.ear src dst n t ≤ a := by
  have hr := h.lat_rng ha0 ha
  obtain ⟨b, hb, hra⟩ := mir_ge h.ok (h.argB ha0 ha) _ src t h.s0 h.s1 h0 hle (Nat.le_refl _)
  have h2 := (h.least h0 (by omega)).best dst b hra
  unfold Pln.ear
  omega
theorem PA.lat_lt (h : PA p src dst n) {a : Int} (ha0 : 0 ≤ a) (ha : a ≤ 1099511627776) (hl : 0 ≤ p.lat src dst n a) : p.lat src dst n a + 2 ≤ a := by
  have h1 := h.ear_le hl ha0 ha (Int.le_refl _)
  have hr := h.lat_rng ha0 ha
  rcases h.ear_cases hl (by omega) with e | ⟨e, e2, e3⟩
  · exact absurd e h1.1
  · omega
end

/-- A step of a profile. -/
structure Stp where
  fr : Int
  til : Int
  val : Int
def Pln.stp (p : Pln) (src dst n t : Int) : Stp := ⟨t, p.lat src dst n (p.ear src dst n t), p.ear src dst n t⟩
/-- The steps from the time 0 on, and where the next one begins. -/
inductive Chn (p : Pln) (src dst n : Int) : List Stp → Int → Prop where
  | nil : Chn p src dst n [] 0
  | snoc {l : List Stp} {t : Int} : Chn p src dst n l t → t ≤ 1099511627776 → p.ear src dst n t ≠ -1 → Chn p src dst n (l ++ [p.stp src dst n t]) (p.lat src dst n (p.ear src dst n t) + 1)
def Pln.stopAt (p : Pln) (src dst n t : Int) : Prop := 1099511627776 < t ∨ p.ear src dst n t = -1
section
variable {p : Pln} {src dst n : Int}
theorem Chn.rng (h : PA p src dst n) {l : List Stp} {t : Int} (hc : Chn p src dst n l t) : 0 ≤ t ∧ t ≤ 1099511627776 ∧ l.length ≤ t := by
  induction hc with
  | nil => exact ⟨by omega, by omega, by simp⟩
  | snoc hc h1 h2 ih =>
    rename_i l t
    rcases h.ear_cases ih.1 h1 with e | ⟨e, e2, e3⟩
    · exact absurd e h2
    · have h3 := h.lat_ge ih.1 h1 h2 (Int.le_refl _) e3
      have h4 := h.lat_lt (a := p.ear src dst n t) (by omega) e3 (by omega)
      rw [List.length_append, List.length_singleton]
      omega
theorem Chn.unique {l l' : List Stp} {t t' : Int} (h : Chn p src dst n l t) (h' : Chn p src dst n l' t') (hl : l.length = l'.length) : l = l' ∧ t = t' := by
  induction h generalizing l' t' with
  | nil =>
    cases h' with
    | nil => exact ⟨rfl, rfl⟩
    | snoc => simp at hl
  | snoc hc h1 h2 ih =>
    cases h' with
    | nil => simp at hl
    | snoc hc' h1' h2' =>
      obtain ⟨rfl, rfl⟩ := ih hc' (by simpa using hl)
      exact ⟨rfl, rfl⟩
/-- A chain goes through the beginnings of a longer one. -/
theorem Chn.before {l : List Stp} {t : Int} (h : Chn p src dst n l t) : ∀ k, k < l.length → ∃ l' t', Chn p src dst n l' t' ∧ l'.length = k ∧ ¬ p.stopAt src dst n t' := by
  induction h with
  | nil => intro k hk; simp at hk
  | snoc hc h1 h2 ih =>
    rename_i l t
    intro k hk
    rw [List.length_append, List.length_singleton] at hk
    by_cases e : k = l.length
    · exact ⟨l, t, hc, e.symm, fun hs => by rcases hs with hs | hs <;> omega⟩
    · exact ih k (by omega)
theorem Chn.most {l l' : List Stp} {t t' : Int} (h : Chn p src dst n l t) (hs : p.stopAt src dst n t) (h' : Chn p src dst n l' t') : l'.length ≤ l.length := by
  apply Classical.byContradiction
  intro hh
  obtain ⟨m, s, hm, hl, hns⟩ := h'.before l.length (by omega)
  obtain ⟨rfl, rfl⟩ := h.unique hm hl.symm
  exact hns hs
end

end Go.Proofs.YtemkpimngbbpkaaGreat

/- Layer 26 (reach): profiles as plain data. -/
namespace Go.Proofs.YtemkpimngbbpkaaGreat
set_option linter.unusedVariables false
set_option linter.unusedSimpArgs false
set_option linter.unusedVariables false
open Go.RowKit

/-- A level of a step function. -/
structure Lev where
  tm : Int
  val : Int
def Lev.cells (x : Lev) : List Value := [.int .i64 x.tm, .int .i64 x.val]
def Lev.value (x : Lev) : Value := .agg #[.int .i64 x.tm, .int .i64 x.val]
def bstp (b : Int × Int) (s : Stp) : Int × Int := if s.val - s.til < b.2 - b.1 then (s.til, s.val) else b
def bestS : List Stp → Int × Int
  | [] => (0, 0)
  | s :: l => l.foldl bstp (s.til, s.val)
def lvs (l : List Stp) : List Lev := l.map fun s => ⟨s.fr, s.val⟩
def lvl (l : List Stp) (t : Int) : List Lev := if l = [] then [] else lvs l ++ [⟨t, 0⟩]
/-- Whether nodes and a size fit. -/
def Pln.argR (p : Pln) (n : Int) (nodes : List Int) : Bool := decide (1 ≤ n ∧ n ≤ 65536 ∧ ∀ x ∈ nodes, 0 ≤ x ∧ x < p.quo.length)
/-- api.Errno of reach.valid. -/
def Pln.rv (p : Pln) (n : Int) (nodes : List Int) : Int := if p.chk = 0 then (if p.argR n nodes then 0 else 2) else 1
/-- What levels returns. -/
def LevP (p : Pln) (src dst n : Int) (out : List Lev) (b : Int × Int) (e : Int) : Prop :=
  if p.rv n [src, dst] = 0 then
    (if src = dst then e = 10 ∧ out = [] ∧ b = (0, 0)
    else (e = 4 ∧ out = [] ∧ b = (0, 0) ∧ ∃ l t, Chn p src dst n l t ∧ (l.length = 1001 ∨ (l.length = 1000 ∧ p.stopAt src dst n t))) ∨
      (e = 0 ∧ ∃ l t, Chn p src dst n l t ∧ p.stopAt src dst n t ∧ l.length < 1000 ∧ out = lvl l t ∧ b = bestS l))
  else e = p.rv n [src, dst] ∧ out = [] ∧ b = (0, 0)
theorem LevP.unique {p : Pln} {src dst n : Int} {out out' : List Lev} {b b' : Int × Int} {e e' : Int} (h : LevP p src dst n out b e) (h' : LevP p src dst n out' b' e') : out = out' ∧ b = b' ∧ e = e' := by
  unfold LevP at h h'
  split at h
  · rename_i h0
    rw [if_pos h0] at h'
    split at h
    · rename_i h1
      rw [if_pos h1] at h'
      exact ⟨by rw [h.2.1, h'.2.1], by rw [h.2.2, h'.2.2], by rw [h.1, h'.1]⟩
    · rename_i h1
      rw [if_neg h1] at h'
      rcases h with ⟨rfl, rfl, rfl, l, t, hc, hl⟩ | ⟨rfl, l, t, hc, hs, hl, rfl, rfl⟩
      · rcases h' with ⟨rfl, rfl, rfl, _⟩ | ⟨rfl, l', t', hc', hs', hl', rfl, rfl⟩
        · exact ⟨rfl, rfl, rfl⟩
        · have := hc'.most hs' hc
          rcases hl with hl | hl <;> omega
      · rcases h' with ⟨rfl, rfl, rfl, l', t', hc', hl'⟩ | ⟨rfl, l', t', hc', hs', hl', rfl, rfl⟩
        · have := hc.most hs hc'
          rcases hl' with hl' | hl' <;> omega
        · have h2 := hc.most hs hc'
          have h3 := hc'.most hs' hc
          obtain ⟨rfl, rfl⟩ := hc.unique hc' (by omega)
          exact ⟨rfl, rfl, rfl⟩
  · rename_i h0
    rw [if_neg h0] at h'
    exact ⟨by rw [h.2.1, h'.2.1], by rw [h.2.2, h'.2.2], by rw [h.1, h'.1]⟩
section
variable {p : Pln} {src dst n : Int}
/-- Where a step ends the next one begins. -/
theorem Chn.next (h : PA p src dst n) {l : List Stp} {t : Int} (hc : Chn p src dst n l t) : ∀ (i : Nat) (s : Stp), l[i]? = some s → (∀ s', l[i + 1]? = some s' → s'.fr = s.til + 1) ∧ (i + 1 = l.length → t = s.til + 1) := by
  induction hc with
  | nil => intro i s hs; simp at hs
  | snoc hc h1 h2 ih =>
    rename_i l t
    intro i s hs
    by_cases e : i < l.length
    · rw [List.getElem?_append_left e] at hs
      have h3 := ih i s hs
      refine ⟨fun s' hs' => ?_, fun hl => by rw [List.length_append, List.length_singleton] at hl; omega⟩
      by_cases e2 : i + 1 < l.length
      · rw [List.getElem?_append_left e2] at hs'
        exact h3.1 s' hs'
      · have e3 : i + 1 = l.length := by omega
        rw [e3, List.getElem?_append_right (Nat.le_refl _), Nat.sub_self] at hs'
        simp only [List.getElem?_cons_zero, Option.some.injEq] at hs'
        subst hs'
        exact h3.2 e3
    · have e3 : i = l.length := by
        have := (List.getElem?_eq_some_iff.1 hs).1
        rw [List.length_append, List.length_singleton] at this
        omega
      rw [e3, List.getElem?_append_right (Nat.le_refl _), Nat.sub_self] at hs
      simp only [List.getElem?_cons_zero, Option.some.injEq] at hs
      subst hs
      refine ⟨fun s' hs' => ?_, fun _ => rfl⟩
      have := (List.getElem?_eq_some_iff.1 hs').1
      rw [List.length_append, List.length_singleton] at this
      omega
theorem Chn.empty {l : List Stp} {t : Int} (hc : Chn p src dst n l t) (hl : l = []) : t = 0 := by
  cases hc with
  | nil => rfl
  | snoc hc h1 h2 => simp at hl
theorem Chn.first {l : List Stp} {t : Int} (hc : Chn p src dst n l t) : ∀ s, l[0]? = some s → s.fr = 0 := by
  induction hc with
  | nil => intro s hs; simp at hs
  | snoc hc h1 h2 ih =>
    rename_i l t
    intro s hs
    by_cases hl : l = []
    · have ht := hc.empty hl
      subst hl
      simp only [List.nil_append, List.getElem?_cons_zero, Option.some.injEq] at hs
      subst hs
      simp only [Pln.stp]; exact ht
    · have h3 : 0 < l.length := List.length_pos_iff.2 hl
      rw [List.getElem?_append_left h3] at hs
      exact ih s hs
end

end Go.Proofs.YtemkpimngbbpkaaGreat

/- Layer 24 (journey): the plain law of JourneyMonotone. -/
namespace Go.Proofs.YtemkpimngbbpkaaGreat
set_option linter.unusedVariables false
set_option linter.unusedSimpArgs false
set_option linter.unusedVariables false
open Go.RowKit

end Go.Proofs.YtemkpimngbbpkaaGreat

namespace Go.Proofs.YtemkpimngbbpkaaGreat
set_option linter.unusedVariables false
set_option linter.unusedSimpArgs false
set_option linter.unusedVariables false
open Go.RowKit

abbrev Bts := List UInt8
def strV (l : Bts) : Value := .string ⟨l.toArray⟩
def EB : Elt UInt8 := ⟨fun b => [.int .u8 (b.toNat : Int)], 1, fun _ => rfl, by omega, fun x u hu => by simp at hu; subst hu; rfl⟩

/-- The state of the keyed hash. -/
structure Q4 where
  a : UInt64
  b : UInt64
  c : UInt64
  d : UInt64
def rl (x k : UInt64) : UInt64 := (x <<< k) ||| (x >>> (64 - k))
def Q4.rnd (v : Q4) : Q4 :=
  let a := v.a + v.b
  let b := rl v.b 13 ^^^ a
  let a := rl a 32
  let c := v.c + v.d
  let d := rl v.d 16 ^^^ c
  let a := a + d
  let d := rl d 21 ^^^ a
  let c := c + b
  let b := rl b 17 ^^^ c
  let c := rl c 32
  ⟨a, b, c, d⟩
def wrdK (l : Bts) : Nat → UInt64
  | 0 => 0
  | k + 1 => wrdK l k ||| ((l.getD k 0).toUInt64 <<< (UInt64.ofNat (8 * k)))
/-- The word in the first 8 bytes. -/
def wrd (l : Bts) : UInt64 := wrdK l 8
/-- The bytes of a word. -/
def wby (m : UInt64) : Bts := (List.range 8).map fun i => (m >>> (UInt64.ofNat (8 * i))).toUInt8
def lastB (s : Bts) : Bts := let r := s.drop (s.length / 8 * 8); (r ++ List.replicate (8 - r.length) 0).set 7 (UInt8.ofNat s.length)
def wordsL (s : Bts) : List UInt64 := (List.range (s.length / 8)).map (fun i => wrd (s.drop (8 * i))) ++ [wrd (lastB s)]
def Q4.word (v : Q4) (m : UInt64) : Q4 :=
  let u := (Q4.rnd (Q4.rnd { v with d := v.d ^^^ m }))
  { u with a := u.a ^^^ m }
def Q4.fin (v : Q4) : UInt64 :=
  let u := Q4.rnd (Q4.rnd (Q4.rnd (Q4.rnd { v with c := v.c ^^^ 255 })))
  u.a ^^^ u.b ^^^ u.c ^^^ u.d
def q0 (key : Bts) : Q4 := ⟨wrd key ^^^ 0x736f6d6570736575, wrd (key.drop 8) ^^^ 0x646f72616e646f6d, wrd key ^^^ 0x6c7967656e657261, wrd (key.drop 8) ^^^ 0x7465646279746573⟩
def tagB (key s : Bts) : Bts := wby ((wordsL s).foldl Q4.word (q0 key)).fin
def chainB (l : List Bts) : Bts := l.flatMap fun s => wby (UInt64.ofNat s.length) ++ s

def cst1 (r : UInt32) : UInt32 := if r % 2 = 1 then (r / 2) ^^^ 2197175160 else r / 2
def cst (r : UInt32) : UInt32 := cst1 (cst1 (cst1 (cst1 (cst1 (cst1 (cst1 (cst1 r)))))))
def crcU (r : UInt32) (s : Bts) : UInt32 := s.foldl (fun r b => (r >>> 8) ^^^ cst (r.toUInt8 ^^^ b).toUInt32) r
def crcS (s : Bts) : UInt32 := crcU 4294967295 s ^^^ 4294967295
def ctail (s : Bts) : Bts := let n := crcS s; [n.toUInt8, (n >>> 8).toUInt8, (n >>> 16).toUInt8, (n >>> 24).toUInt8]

def zig (n : Int) : Nat := if n < 0 then (-2 * n - 1).toNat else (2 * n).toNat
/-- How many groups of 7 bits follow the first one. -/
def ngrF (z : Nat) : Nat → Nat → Nat
  | 0, k => k
  | f + 1, k => if z / 128 ^ k < 128 then k else ngrF z f (k + 1)
def ngr (z : Nat) : Nat := ngrF z 9 0
def vintN (z : Nat) : Bts := (List.range (ngr z + 1)).map fun i => UInt8.ofNat (z / 128 ^ (ngr z - i) % 128 + if i = ngr z then 0 else 128)
def vint (n : Int) : Bts := vintN (zig n)
def vtext (s : Bts) : Bts := vint s.length ++ s
def sealB (s : Bts) : Bts := vtext s ++ ctail (vtext s)

/-- A block of a bundle. -/
structure Bl where
  kind : Int
  flags : Int
  data : Bts
def Bl.enc (b : Bl) : Bts := sealB (vint b.kind ++ vint b.flags ++ vtext b.data)
def encAll (l : List Bl) : Bts := vint l.length ++ l.flatMap Bl.enc
def EBl : Elt Bl := ⟨fun b => [.int .i64 b.kind, .int .i64 b.flags, strV b.data], 3, fun _ => rfl, by omega, fun x u hu => by simp at hu; rcases hu with h | h | h <;> subst h <;> rfl⟩
/-- A bundle. -/
structure Bu where
  src : Int
  cr : Int
  seq : Int
  off : Int
  tot : Int
  dk : Int
  dn : Int
  life : Int
  prio : Int
  flags : Int
  blocks : List Bl
  pay : Bts
def Bu.nums (b : Bu) : List Int := [b.src, b.cr, b.seq, b.off, b.tot, b.dk, b.dn, b.life, b.prio, b.flags]
def Bu.enc (b : Bu) : Bts := sealB (vtext [77, 66, 49] ++ b.nums.flatMap vint ++ encAll b.blocks ++ vtext b.pay)

/-- The example. -/
def exKey : Bts := [48, 49, 50, 51, 52, 53, 54, 55, 56, 57, 97, 98, 99, 100, 101, 102]
def exKey2 : Bts := [48, 49, 50, 51, 52, 53, 54, 55, 56, 57, 97, 98, 99, 100, 101, 103]
def exBu : Bu := ⟨1, 0, 0, 0, 0, 1, 2, 9, 0, 0, [], [104, 105]⟩
end Go.Proofs.YtemkpimngbbpkaaGreat

namespace Go.Proofs.YtemkpimngbbpkaaGreat
set_option linter.unusedVariables false
set_option linter.unusedSimpArgs false
set_option linter.unusedVariables false
open Go.RowKit

/-- A signature: a node, and 8 bytes. -/
abbrev Sg := UInt8 × Bts
/-- The i-th signature in some bytes. -/
def sgAt (d : Bts) (i : Nat) : Sg := (d.getD (9 * i) 0, (d.drop (9 * i + 1)).take 8)
def sigs (d : Bts) : List Sg := (List.range (d.length / 9)).map (sgAt d)
def sflat (l : List Sg) : Bts := l.flatMap fun x => x.1 :: x.2
theorem sigs_len (d : Bts) : (sigs d).length = d.length / 9 := by simp [sigs]
theorem sgAt_len {d : Bts} {i : Nat} (h : i < d.length / 9) : (sgAt d i).2.length = 8 := by
  unfold sgAt
  simp only [List.length_take, List.length_drop]
  omega
theorem sigs_8 {d : Bts} : ∀ x ∈ sigs d, x.2.length = 8 := by
  intro x hx
  simp only [sigs, List.mem_map, List.mem_range] at hx
  obtain ⟨i, hi, rfl⟩ := hx
  exact sgAt_len hi
theorem sflat_len {l : List Sg} (h : ∀ x ∈ l, x.2.length = 8) : (sflat l).length = 9 * l.length := by
  induction l with
  | nil => rfl
  | cons x l ih =>
    have h1 := h x (by simp)
    have h2 := ih (fun y hy => h y (by simp [hy]))
    simp only [sflat, List.flatMap_cons, List.length_append, List.length_cons] at h2 ⊢
    omega
theorem sgAt_flat0 (x : Sg) (r : Bts) (h : x.2.length = 8) : sgAt (x.1 :: x.2 ++ r) 0 = x := by
  obtain ⟨a, t⟩ := x
  unfold sgAt
  simp only [Nat.mul_zero, Nat.zero_add, List.cons_append, List.getD_cons_zero, List.drop_succ_cons, List.drop_zero]
  rw [show (8 : Nat) = t.length from h.symm, List.take_left]
theorem sgAt_flatS (x : Sg) (r : Bts) (h : x.2.length = 8) (i : Nat) : sgAt (x.1 :: x.2 ++ r) (i + 1) = sgAt r i := by
  obtain ⟨a, t⟩ := x
  have h' : t.length = 8 := h
  unfold sgAt
  have e1 : 9 * (i + 1) = (9 * i) + (a :: t).length := by rw [List.length_cons, h']; omega
  rw [e1, show (9 * i) + (a :: t).length + 1 = (9 * i + 1) + (a :: t).length by omega]
  have e2 : ∀ k, List.drop (k + (a :: t).length) (a :: t ++ r) = List.drop k r := fun k => by
    rw [Nat.add_comm, List.drop_append, Nat.add_sub_cancel_left, List.drop_eq_nil_of_le (by omega), List.nil_append]
  refine Prod.ext ?_ ?_
  · simp only [List.getD_eq_getElem?_getD]
    congr 1
    rw [List.getElem?_append_right (by omega), Nat.add_sub_cancel]
  · show List.take 8 (List.drop _ _) = _
    rw [e2]
theorem sigs_flat {l : List Sg} (h : ∀ x ∈ l, x.2.length = 8) : sigs (sflat l) = l := by
  induction l with
  | nil => rfl
  | cons x l ih =>
    have h1 := h x (by simp)
    have h2 : ∀ y ∈ l, y.2.length = 8 := fun y hy => h y (by simp [hy])
    have ih := ih h2
    have hl := sflat_len h2
    have e : sflat (x :: l) = x.1 :: x.2 ++ sflat l := by simp [sflat]
    have hlen : (sflat (x :: l)).length / 9 = (sflat l).length / 9 + 1 := by
      rw [e, List.length_append, List.length_cons, h1]; omega
    unfold sigs at ih ⊢
    rw [hlen, List.range_succ_eq_map, List.map_cons, List.map_map, e, sgAt_flat0 x _ h1]
    congr 1
    refine Eq.trans ?_ ih
    refine List.map_congr_left (fun i _ => ?_)
    exact sgAt_flatS x _ h1 i
/-- Nodes ascend, from behind 'last' on, and are nodes. -/
def okS : Int → List Sg → Bool
  | _, [] => true
  | last, x :: r => decide (last < (x.1.toNat : Int) ∧ x.1.toNat < 16) && okS (x.1.toNat : Int) r
def damB (d : Bts) : Bool := !okS (-1) (sigs d) || decide (d.length = 0) || decide (d.length % 9 ≠ 0)
def findS (l : List Sg) (n : Nat) : Option Bts := (l.find? (fun x => x.1.toNat == n)).map (·.2)
/-- A signature in its place. -/
def insS (m : Sg) : List Sg → List Sg
  | [] => [m]
  | x :: r => if m.1.toNat < x.1.toNat then m :: x :: r else x :: insS m r
theorem insS_len (m : Sg) (l : List Sg) : (insS m l).length = l.length + 1 := by
  induction l with
  | nil => rfl
  | cons x r ih => unfold insS; split <;> simp [ih]
theorem insS_8 {m : Sg} {l : List Sg} (hm : m.2.length = 8) (h : ∀ x ∈ l, x.2.length = 8) : ∀ x ∈ insS m l, x.2.length = 8 := by
  induction l with
  | nil => intro x hx; simp [insS] at hx; subst hx; exact hm
  | cons y r ih =>
    intro x hx
    unfold insS at hx
    split at hx
    · rcases List.mem_cons.1 hx with rfl | hx
      · exact hm
      · exact h x hx
    · rcases List.mem_cons.1 hx with rfl | hx
      · exact h _ (by simp)
      · exact ih (fun z hz => h z (by simp [hz])) x hx
theorem insS_ok {m : Sg} (hm : m.1.toNat < 16) : ∀ {l : List Sg} {last : Int}, okS last l = true → last < (m.1.toNat : Int) → findS l m.1.toNat = none → okS last (insS m l) = true
  | [], last, _, h1, _ => by simp [insS, okS, h1, hm]
  | x :: r, last, h, h1, h2 => by
    simp only [okS, Bool.and_eq_true, decide_eq_true_eq] at h
    unfold insS
    split
    · rename_i h3
      simp only [okS, Bool.and_eq_true, decide_eq_true_eq]
      exact ⟨⟨h1, hm⟩, ⟨by omega, h.1.2⟩, h.2⟩
    · rename_i h3
      have hne : ¬ x.1.toNat = m.1.toNat := by
        intro e
        simp [findS, e] at h2
      have h2' : findS r m.1.toNat = none := by
        unfold findS at h2 ⊢
        rw [List.find?_cons_of_neg (by simpa using hne)] at h2
        exact h2
      simp only [okS, Bool.and_eq_true, decide_eq_true_eq]
      exact ⟨h.1, insS_ok hm h.2 (by omega) h2'⟩
theorem insS_find {m : Sg} : ∀ {l : List Sg}, findS l m.1.toNat = none → findS (insS m l) m.1.toNat = some m.2
  | [], _ => by simp [insS, findS]
  | x :: r, h2 => by
    unfold insS
    split
    · simp [findS]
    · have hne : ¬ x.1.toNat = m.1.toNat := by
        intro e
        simp [findS, e] at h2
      have h2' : findS r m.1.toNat = none := by
        unfold findS at h2 ⊢
        rw [List.find?_cons_of_neg (by simpa using hne)] at h2
        exact h2
      unfold findS
      rw [List.find?_cons_of_neg (by simpa using hne)]
      exact insS_find h2'
/-- The loop that puts a signature in its place. -/
def putS (m : Sg) (s : List Sg × Bool) (x : Sg) : List Sg × Bool := if !s.2 && decide (m.1.toNat < x.1.toNat) then (s.1 ++ [m, x], true) else (s.1 ++ [x], s.2)
def putR (m : Sg) (l : List Sg) : List Sg × Bool := l.foldl (putS m) ([], false)
theorem putR_snoc (m : Sg) (l : List Sg) (x : Sg) : putR m (l ++ [x]) = putS m (putR m l) x := by simp [putR]
theorem putF_true (m : Sg) : ∀ (l : List Sg) (o : List Sg), l.foldl (putS m) (o, true) = (o ++ l, true)
  | [], o => by simp
  | x :: r, o => by
    rw [List.foldl_cons, show putS m (o, true) x = (o ++ [x], true) from rfl, putF_true m r]
    simp
theorem putF_ins (m : Sg) : ∀ (l : List Sg) (o : List Sg), (let s := l.foldl (putS m) (o, false); if s.2 then s.1 else s.1 ++ [m]) = o ++ insS m l
  | [], o => by simp [insS]
  | x :: r, o => by
    rw [List.foldl_cons]
    by_cases h : m.1.toNat < x.1.toNat
    · rw [show putS m (o, false) x = (o ++ [m, x], true) by simp [putS, h], putF_true]
      simp [insS, h]
    · rw [show putS m (o, false) x = (o ++ [x], false) by simp [putS, h], putF_ins m r]
      simp [insS, h]
theorem putR_ins (m : Sg) (l : List Sg) : (if (putR m l).2 then (putR m l).1 else (putR m l).1 ++ [m]) = insS m l := by
  have h := putF_ins m l []
  rw [List.nil_append] at h
  exact h

end Go.Proofs.YtemkpimngbbpkaaGreat

namespace Go.Proofs.YtemkpimngbbpkaaGreat
set_option linter.unusedVariables false
set_option linter.unusedSimpArgs false
set_option linter.unusedVariables false
open Go.RowKit

/-- i elements at each end have been exchanged. -/
def RevP {α : Type} (l m : List α) (i : Nat) : Prop := m.length = l.length ∧ ∀ k, k < l.length → m[k]? = if k < i ∨ l.length - 1 - k < i then l[l.length - 1 - k]? else l[k]?
theorem RevP.zero {α : Type} (l : List α) : RevP l l 0 := ⟨rfl, fun k _ => by rw [if_neg (by omega)]⟩
theorem RevP.step {α : Type} {l m : List α} {i j : Nat} (h : RevP l m i) (hij : i + j + 1 = l.length) (hlt : i < j) (h1 : i < m.length) (h2 : j < m.length) : RevP l ((m.set i m[j]).set j m[i]) (i + 1) := by
  refine ⟨by simp [h.1], fun k hk => ?_⟩
  have e1 : m[j]? = some m[j] := List.getElem?_eq_getElem h2
  have e2 : m[i]? = some m[i] := List.getElem?_eq_getElem h1
  have g1 := h.2 i (by omega)
  have g2 := h.2 j (by omega)
  rw [if_neg (by omega)] at g1 g2
  by_cases hkj : k = j
  · subst hkj
    rw [List.getElem?_set_self (by simpa using h2), if_pos (by omega), ← e2, g1]
    congr 1; omega
  · rw [List.getElem?_set_ne (by omega)]
    by_cases hki : k = i
    · subst hki
      rw [List.getElem?_set_self h1, if_pos (by omega), ← e1, g2]
      congr 1; omega
    · rw [List.getElem?_set_ne (by omega), h.2 k hk]
      by_cases hc : k < i ∨ l.length - 1 - k < i
      · rw [if_pos hc, if_pos (by omega)]
      · rw [if_neg hc, if_neg (by omega)]
theorem RevP.done {α : Type} {l m : List α} {i j : Nat} (h : RevP l m i) (hij : i + j + 1 = l.length) (hge : j ≤ i) : m = l.reverse := by
  apply List.ext_getElem?
  intro k
  by_cases hk : k < l.length
  · rw [List.getElem?_reverse hk, h.2 k hk]
    split
    · rfl
    · rename_i hc
      congr 1; omega
  · rw [List.getElem?_eq_none (by rw [h.1]; omega), List.getElem?_eq_none (by simp; omega)]

end Go.Proofs.YtemkpimngbbpkaaGreat

namespace Go.Proofs.YtemkpimngbbpkaaGreat
set_option linter.unusedVariables false
set_option linter.unusedSimpArgs false
set_option linter.unusedVariables false
open Go.RowKit

structure Chg where
  org : Int
  cnt : Int
  stp : Int
  kind : Int
  con : Con
def Chg.cells (x : Chg) : List Value := [.int .i64 x.org, .int .i64 x.cnt, .int .i64 x.stp, .int .i64 x.kind, .int .i64 x.con.src, .int .i64 x.con.dst, .int .i64 x.con.st, .int .i64 x.con.en, .int .i64 x.con.rate, .int .i64 x.con.rng, .int .i64 x.con.loss]
def EChg : Elt Chg := ⟨Chg.cells, 11, fun _ => rfl, by omega, fun x u hu => by simp [Chg.cells] at hu; rcases hu with h | h | h | h | h | h | h | h | h | h | h <;> subst h <;> rfl⟩

def inN (n i : Int) : Bool := decide (0 ≤ i ∧ i < n)
def Con.bare (c : Con) : Con := ⟨c.src, c.dst, c.st, 0, 0, 0, 0⟩
def Con.isBare (c : Con) : Bool := decide (c.en = 0) && (decide (c.rate = 0) && (decide (c.rng = 0) && decide (c.loss = 0)))
def Chg.cok (n : Int) (x : Chg) : Bool :=
  inN n x.con.src && (inN n x.con.dst && (if x.kind = 1 then decide (x.con.check = 0) else if x.kind = 2 then decide (x.con.src ≠ x.con.dst) && (decide (0 ≤ x.con.st ∧ x.con.st ≤ 1099511627776) && x.con.isBare) else false))
def Chg.ok (n : Int) (x : Chg) : Bool := decide (0 ≤ x.org ∧ x.org < n ∧ 1 ≤ x.cnt ∧ 1 ≤ x.stp ∧ x.stp ≤ 1099511627776) && x.cok n
/-- Why a change cannot follow another one. -/
def folE (b : Option Chg) (x : Chg) : Int :=
  match b with
  | none => if x.cnt = 1 then 0 else 25
  | some y => if x.org < y.org ∨ (y.org = x.org ∧ x.cnt ≤ y.cnt) then 9 else if y.org = x.org then (if x.cnt ≠ y.cnt + 1 then 25 else if x.stp ≤ y.stp then 9 else 0) else (if x.cnt ≠ 1 then 25 else 0)
def chkF (n : Int) : Option Chg → List Chg → Int
  | _, [] => 0
  | b, x :: r => if x.ok n = false then 2 else if folE b x ≠ 0 then folE b x else chkF n (some x) r
def hChk (n : Int) (l : List Chg) : Int := if n < 1 ∨ 16 < n then 2 else if 1000 < l.length then 4 else chkF n none l

/-- Ordered by origin and count. -/
def Chg.lt (x y : Chg) : Prop := x.org < y.org ∨ (x.org = y.org ∧ x.cnt < y.cnt)
theorem Chg.lt_irrefl (x : Chg) : ¬ x.lt x := by unfold Chg.lt; omega
/-- What all nodes have done: of each of the three nodes its changes, in order. -/
structure LogOk (L : Nat → List Chg) : Prop where
  org : ∀ o (i : Nat) (h : i < (L o).length), (L o)[i].org = o
  cnt : ∀ o (i : Nat) (h : i < (L o).length), (L o)[i].cnt = i + 1
  ok : ∀ o, o < 3 → ∀ x ∈ L o, x.ok 4 = true
  asc : ∀ o (i : Nat) (h : i + 1 < (L o).length), (L o)[i].stp < (L o)[i + 1].stp
theorem LogOk.key {L : Nat → List Chg} (h : LogOk L) {o p : Nat} {x y : Chg} (hx : x ∈ L o) (hy : y ∈ L p) (e1 : x.org = y.org) (e2 : x.cnt = y.cnt) : x = y := by
  obtain ⟨i, hi, rfl⟩ := List.mem_iff_getElem.1 hx
  obtain ⟨j, hj, rfl⟩ := List.mem_iff_getElem.1 hy
  rw [h.org, h.org] at e1
  rw [h.cnt, h.cnt] at e2
  have e3 : o = p := by omega
  subst e3
  have e4 : i = j := by omega
  subst e4
  rfl
def conEq (a b : Con) : Bool := decide (a.src = b.src) && (decide (a.dst = b.dst) && (decide (a.st = b.st) && (decide (a.en = b.en) && (decide (a.rate = b.rate) && (decide (a.rng = b.rng) && decide (a.loss = b.loss))))))
theorem conEq_iff {a b : Con} : conEq a b = true ↔ a = b := by
  cases a; cases b
  simp [conEq]
def chgEq (x y : Chg) : Bool := decide (x.org = y.org) && (decide (x.cnt = y.cnt) && (decide (x.stp = y.stp) && (decide (x.kind = y.kind) && conEq x.con y.con)))
theorem chgEq_iff {x y : Chg} : chgEq x y = true ↔ x = y := by
  obtain ⟨a, b, c, d, e⟩ := x
  obtain ⟨a', b', c', d', e'⟩ := y
  simp [chgEq, conEq_iff]
def Chg.le (x y : Chg) : Prop := ¬ y.lt x
theorem chkF_at {n : Int} : ∀ {l : List Chg} {b : Option Chg}, chkF n b l = 0 → ∀ (i : Nat) (h : i < l.length), l[i].ok n = true ∧ folE (if i = 0 then b else l[i - 1]?) l[i] = 0
  | [], _, _, i, h => by simp at h
  | x :: r, b, h0, i, h => by
    unfold chkF at h0
    split at h0
    · omega
    · rename_i a1
      split at h0
      · rename_i a2; exact absurd h0 a2
      · rename_i a2
        have a2 : folE b x = 0 := by simpa using a2
        cases i with
        | zero => exact ⟨by simpa using a1, by simpa using a2⟩
        | succ i =>
          have ih := chkF_at h0 i (by simpa using h)
          refine ⟨ih.1, ?_⟩
          rw [if_neg (by omega)]
          have e2 := ih.2
          cases i with
          | zero => simpa using e2
          | succ i => simpa using e2

end Go.Proofs.YtemkpimngbbpkaaGreat

namespace Go.Proofs.YtemkpimngbbpkaaGreat
set_option linter.unusedVariables false
set_option linter.unusedSimpArgs false
set_option linter.unusedVariables false
open Go.RowKit

def nxt (x y : Chg) : Chg := ⟨x.org, if y.org = x.org then max x.cnt (y.cnt + 1) else x.cnt, max x.stp (y.stp + 1), x.kind, x.con⟩
def nextC (l : List Chg) (o kind : Int) (c : Con) : Chg := l.foldl nxt ⟨o, 1, 1, kind, c⟩
/-- The contacts that remain: each one that overlaps with none before it. -/
def keepC (l : List Con) : List Con := l.foldl (fun o c => if o.any (fun d => d.overlapB c) then o else o ++ [c]) []
theorem keepF_spec : ∀ (l o : List Con), o.Pairwise (fun a b => a.overlapB b = false) → (l.foldl (fun o c => if o.any (fun d => d.overlapB c) then o else o ++ [c]) o).Pairwise (fun a b => a.overlapB b = false) ∧ (∀ c ∈ l.foldl (fun o c => if o.any (fun d => d.overlapB c) then o else o ++ [c]) o, c ∈ o ∨ c ∈ l) ∧ (l.foldl (fun o c => if o.any (fun d => d.overlapB c) then o else o ++ [c]) o).length ≤ o.length + l.length
  | [], o, h => ⟨h, fun c hc => .inl hc, by simp⟩
  | x :: l, o, h => by
    rw [List.foldl_cons]
    by_cases e : o.any (fun d => d.overlapB x) = true
    · rw [if_pos e]
      obtain ⟨h1, h2, h3⟩ := keepF_spec l o h
      exact ⟨h1, fun c hc => (h2 c hc).imp id (fun h => by simp [h]), by rw [List.length_cons]; omega⟩
    · rw [if_neg e]
      have e' : ∀ d ∈ o, d.overlapB x = false := by
        rw [Bool.not_eq_true, List.any_eq_false] at e
        intro d hd
        have := e d hd
        simpa using this
      obtain ⟨h1, h2, h3⟩ := keepF_spec l (o ++ [x]) (List.pairwise_append.2 ⟨h, by simp, fun a ha b hb => by rw [List.mem_singleton.1 hb]; exact e' a ha⟩)
      refine ⟨h1, fun c hc => ?_, by rw [List.length_append, List.length_singleton] at h3; rw [List.length_cons]; omega⟩
      rcases h2 c hc with h | h
      · rcases List.mem_append.1 h with h | h
        · exact .inl h
        · exact .inr (by rw [List.mem_singleton.1 h]; simp)
      · exact .inr (by simp [h])

end Go.Proofs.YtemkpimngbbpkaaGreat

namespace Go.Proofs.YtemkpimngbbpkaaGreat
set_option linter.unusedVariables false
set_option linter.unusedSimpArgs false
set_option linter.unusedVariables false
open Go.RowKit Go.Lib

def byC (b : UInt8) : Value := .int .u8 (b.toNat : Int)
theorem eb_all (l : Bts) : EB.all l = l.map byC := by
  induction l with
  | nil => rfl
  | cons x l ih => simp only [Elt.all, List.flatMap_cons, List.map_cons] at ih ⊢; rw [ih]; rfl
theorem strCells_mk (l : Bts) : strCells ⟨l.toArray⟩ = l.map byC := by simp [strCells, byC]
theorem bsize_mk (l : Bts) : (⟨l.toArray⟩ : ByteArray).size = l.length := by simp [ByteArray.size]

/-- A row of bytes of the call's own; a mark may lie behind its cells. -/
def OwnsB (w : World) (base : Nat) (e : TypeId) (v : Value) (l : Bts) : Prop :=
  (v = .slice none 0 0 ∧ l = []) ∨
  ∃ g cap cur fz, v = .slice (some ⟨g, 0, none⟩) l.length cap ∧ base ≤ g ∧ w.heap[g]? = some (.cells cur e fz) ∧ (fz = (0, 0) ∨ fz = (cur.size, cur.size + 1)) ∧ l.length ≤ cap ∧ cap ≤ maxLen ∧ cur.size = cap ∧ cur.toList.take l.length = l.map byC
theorem OwnsB.of {w : World} {base : Nat} {e : TypeId} {v : Value} {l : Bts} (h : Owns EB w base e v l) : OwnsB w base e v l := by
  have h1 := h
  unfold Owns at h1
  rw [eb_all] at h1
  rcases h1.2 with ⟨rfl, h2⟩ | ⟨g, cap, cur, rfl, h2, h3, h4, h5, h6, h7⟩
  · exact .inl ⟨rfl, List.eq_nil_of_length_eq_zero h2⟩
  · have e1 : EB.size = 1 := rfl
    rw [e1, Nat.mul_one] at h6 h7
    exact .inr ⟨g, cap, cur, (0, 0), rfl, h2, h3, .inl rfl, h4, h5, h6, h7⟩
theorem OwnsB.none_ (w : World) (base : Nat) (e : TypeId) : OwnsB w base e (.slice none 0 0) [] := .inl ⟨rfl, rfl⟩
theorem OwnsB.kept {w w' : World} {base : Nat} {e : TypeId} {v : Value} {l : Bts} {row : Option Nat} (h : OwnsB w base e v l) (hg : w.grownBy w' row) (hne : ∀ b, v.ownBlock = some b → some b ≠ row) : OwnsB w' base e v l := by
  rcases h with h | ⟨g, cap, cur, fz, rfl, h2, h3, h4⟩
  · exact .inl h
  · exact .inr ⟨g, cap, cur, fz, rfl, h2, (hg.block g (Array.getElem?_eq_some_iff.1 h3).1 (hne g rfl)).trans h3, h4⟩
theorem OwnsB.ext {w w' : World} {base : Nat} {e : TypeId} {v : Value} {l : Bts} (h : OwnsB w base e v l) (hb : Ext w w') : OwnsB w' base e v l := by
  rcases h with h | ⟨g, cap, cur, fz, rfl, h2, h3, h4⟩
  · exact .inl h
  · exact .inr ⟨g, cap, cur, fz, rfl, h2, (hb.block g (Array.getElem?_eq_some_iff.1 h3).1).trans h3, h4⟩
theorem OwnsB.mono {w : World} {base base' : Nat} {e : TypeId} {v : Value} {l : Bts} (h : OwnsB w base e v l) (hb : base' ≤ base) : OwnsB w base' e v l := by
  rcases h with h | ⟨g, cap, cur, fz, rfl, h2, h3⟩
  · exact .inl h
  · exact .inr ⟨g, cap, cur, fz, rfl, by omega, h3⟩
theorem OwnsB.block {w : World} {base : Nat} {e : TypeId} {v : Value} {l : Bts} (h : OwnsB w base e v l) {g : Nat} (hg : v.ownBlock = some g) : base ≤ g ∧ g < w.heap.size := by
  rcases h with ⟨rfl, _⟩ | ⟨g', cap, cur, fz, rfl, h2, h3, _⟩
  · simp [Value.ownBlock] at hg
  · simp [Value.ownBlock] at hg
    subst hg
    exact ⟨h2, (Array.getElem?_eq_some_iff.1 h3).1⟩
theorem OwnsB.form {w : World} {base : Nat} {e : TypeId} {v : Value} {l : Bts} (h : OwnsB w base e v l) : ∃ A c, v = .slice A l.length c ∧ Rd EB w A l := by
  rcases h with ⟨rfl, rfl⟩ | ⟨g, cap, cur, fz, rfl, h2, h3, h4, h5, h6, h7, h8⟩
  · exact ⟨none, 0, rfl, Rd.nil⟩
  · refine ⟨_, _, rfl, ?_⟩
    unfold Rd
    rw [eb_all]
    refine ⟨by simp [EB], fun _ => ⟨_, rfl, (Array.getElem?_eq_some_iff.1 h3).1, fun j u hu => ?_⟩⟩
    rw [Addr.add_lit, Nat.zero_add, cell_of_row w g j cur e fz h3]
    rw [← h8, List.getElem?_take] at hu
    split at hu
    · simpa using hu
    · cases hu

theorem run_storeCells_atB (P : Program) (g o : Nat) (t : TypeId) (fz : Nat × Nat) : ∀ (vs : List Value) (i : Nat) (cur : Array Value) (w : World), w.heap[g]? = some (.cells cur t fz) → (fz = (0, 0) ∨ fz = (cur.size, cur.size + 1)) → o + i + vs.length ≤ cur.size → (∀ v ∈ vs, v.oneCell' = true) →
    (storeCells ⟨g, o, none⟩ vs i).run P w = .ok () (w.setRow g (cur.toList.take (o + i) ++ vs ++ cur.toList.drop (o + i + vs.length)).toArray)
  | [], i, cur, w, hg, _, _, _ => by
    simp only [storeCells, List.append_nil, List.length_nil, Nat.add_zero, List.take_append_drop, Array.toArray_toList]
    rw [setRow_self w g cur t fz hg]
    rfl
  | v :: rest, i, cur, w, hg, hfz, hl, h1 => by
    have hi : o + i < cur.size := by simp at hl; omega
    have hadd : (⟨g, o, none⟩ : Addr).add i = ⟨g, o + i, none⟩ := by unfold Addr.add; split <;> simp_all
    have hcell : w.cell? ⟨g, o + i, none⟩ = some cur[o + i] := by simp [World.cell?, hg, hi]
    have hfro : w.frozen? ⟨g, o + i, none⟩ = false := by
      rcases hfz with rfl | rfl <;> simp [World.frozen?, hg] <;> omega
    have hst : (store ((⟨g, o, none⟩ : Addr).add i) v).run P w = .ok () (w.setRow g (cur.setIfInBounds (o + i) v)) := by
      rw [hadd, run_store P w _ v _ (h1 v (by simp)), hcell]
      simp [hfro, setCell_eq_setRow w g (o + i) cur t fz v hg]
    have ih := run_storeCells_atB P g o t fz rest (i + 1) (cur.setIfInBounds (o + i) v) (w.setRow g (cur.setIfInBounds (o + i) v)) (setRow_heap w g cur _ t _ hg) (by simpa using hfz) (by simp at hl ⊢; omega) (fun x hx => h1 x (by simp [hx]))
    simp only [storeCells, Sem.run_bind, hst, Result.andThen_ok, ih, setRow_setRow]
    congr 3
    have e := list_seg_step cur.toList (o + i) v rest (by simp at hl ⊢; omega)
    simpa [Array.toList_setIfInBounds, Nat.add_assoc] using e

section
variable {P : Program} (w : World)
theorem run_append_room_stringB (t u ty e : TypeId) (i : TypeInfo) (ht : P.underlying t = some (.slice e)) (hu : P.underlying u = some .string) (hi : P.info? e = some i) (hs1 : i.size = 1)
    (g sLen sCap : Nat) (cur : Array Value) (fz : Nat × Nat) (hg : w.heap[g]? = some (.cells cur e fz)) (hfz : fz = (0, 0) ∨ fz = (cur.size, cur.size + 1)) (s : ByteArray)
    (hroom : sLen + s.size ≤ sCap) (hfit : sLen + s.size ≤ cur.size) :
    (Builtin.append_ #[t, u] ty #[.slice (some ⟨g, 0, none⟩) sLen sCap, .string s]).run P w =
      .ok (.slice (some ⟨g, 0, none⟩) (sLen + s.size) sCap) (w.setRow g (cur.toList.take sLen ++ strCells s ++ cur.toList.drop (sLen + s.size)).toArray) := by
  have hf := run_firstCells_string (P := P) w 1 s
  have hst := run_storeCells_atB P g sLen e fz (strCells s) 0 cur w hg hfz (by simpa [strCells_length] using hfit) (strCells_oneCell s)
  simp only [Nat.add_zero, strCells_length] at hst
  simp [Builtin.append_, run_underlying ht, run_underlying hu, sizeOf, typeInfo, hi, hs1, Builtin.lenOf, hroom, hf, Addr.add_lit, hst]
/-- A string's bytes behind a row of bytes. -/
theorem run_append_stringB (base : Nat) (t u ty e : TypeId) (i : TypeInfo) (ht : P.underlying t = some (.slice e)) (hu : P.underlying u = some .string) (hi : P.info? e = some i) (hz : i.zero = some (.int .u8 0))
    (hsize : i.size = 1) (hby : i.bytes = 1) (v : Value) (l : Bts) (hown : OwnsB w base e v l) (s : Bts)
    (hn : l.length + s.length ≤ 140737488355328) (hbase : base ≤ w.heap.size) :
    ∃ v' w', (Builtin.append_ #[t, u] ty #[v, strV s]).run P w = .ok v' w' ∧ OwnsB w' base e v' (l ++ s) ∧ w.grownBy w' v.ownBlock := by
  have h63 : l.length + s.length ≤ maxLen := by simp only [maxLen]; omega
  have hss : (⟨s.toArray⟩ : ByteArray).size = s.length := bsize_mk s
  have hsc := strCells_mk s
  unfold strV
  rcases hown with ⟨rfl, rfl⟩ | ⟨g, cap, cur, fz, rfl, hbg, hg, hfz, hnc, hcm, hcs, htake⟩
  · obtain ⟨v', w', h1, h2, h3, h4⟩ := run_append_own_string (P := P) w base t u ty e i ht hu hi hz hsize hby (.slice none 0 0) 0 [] (World.ownsRow_nil w base e 1) ⟨s.toArray⟩ (by rw [hss]; simpa using h63) (by rw [hss]; simpa using hn) hbase
    refine ⟨v', w', h1, OwnsB.of ?_, h3⟩
    unfold Owns
    rw [eb_all, List.nil_append, ← hsc]
    rw [hss] at h2
    simpa [EB] using h2
  · by_cases hroom : l.length + s.length ≤ cap
    · have hr := run_append_room_stringB (P := P) w t u ty e i ht hu hi hsize g l.length cap cur fz hg hfz ⟨s.toArray⟩ (by rw [hss]; exact hroom) (by rw [hss]; omega)
      rw [hss, hsc] at hr
      have hlen : (List.take l.length cur.toList ++ List.map byC s ++ List.drop (l.length + s.length) cur.toList).length = cur.size := by
        simp only [List.length_append, List.length_take, List.length_drop, Array.length_toList, List.length_map]
        omega
      refine ⟨_, _, hr, .inr ⟨g, cap, _, fz, by rw [List.length_append], hbg, setRow_heap w g cur _ e _ hg, ?_, by rw [List.length_append]; exact hroom, hcm, by rw [List.size_toArray, hlen]; exact hcs, ?_⟩, ⟨rfl, rfl, rfl, by simp, fun k _ hk => setRow_other w g k _ (fun e => hk (by simp [Value.ownBlock, e]))⟩⟩
      · rw [List.size_toArray, hlen]; exact hfz
      · rw [htake, List.map_append]
        have : (List.map byC l ++ List.map byC s).length = (l ++ s).length := by simp
        rw [← this]
        exact List.take_left
    · have holds : ∀ j u, (l.map byC)[j]? = some u → w.cell? ((⟨g, 0, none⟩ : Addr).add j) = some u := by
        intro j u hu
        rw [Addr.add_lit, Nat.zero_add, cell_of_row w g j cur e fz hg]
        rw [← htake, List.getElem?_take] at hu
        split at hu
        · simpa using hu
        · cases hu
      have hr := run_append_grow_string (P := P) w t u ty e i (.int .u8 0) ht hu hi hz ⟨g, 0, none⟩ l.length cap (l.map byC) (by rw [hsize]; simp) holds ⟨s.toArray⟩ (by rw [hss]; omega) (by rw [hss]; simp only [maxLen] at h63; omega) (by rw [hby, hss]; exact growslice_fits (by omega) (by omega))
      have hge := grownCap_ge w (l.length + s.length) cap e
      have hcm2 : grownCap w (l.length + s.length) cap e ≤ maxLen := grownCap_le_maxLen w (l.length + s.length) cap e h63
      rw [hss, hsc] at hr
      refine ⟨_, _, hr, .inr ⟨w.heap.size, _, _, (0, 0), by rw [List.length_append], hbase, heap_alloc_new w.drew _, .inl rfl, by rw [List.length_append]; exact hge, hcm2, ?_, ?_⟩, ⟨rfl, rfl, rfl, by simp, fun k hk _ => heap_alloc_old w.drew _ hk⟩⟩
      · have hz1 : (Value.int IntKind.u8 0).cells.size = 1 := rfl
        simp only [Array.size_append, List.size_toArray, size_zeroCells, hz1, List.length_map]
        omega
      · simp only [Array.toList_append, List.append_assoc]
        rw [← List.append_assoc, ← List.map_append]
        have : (List.map byC (l ++ s)).length = (l ++ s).length := by simp
        rw [← this]
        exact List.take_left
end

/-- '[]byte(s)'. -/
theorem conv_bytes {P : Program} (w : World) (src dst e : TypeId) (s : Bts) {u : TypeDesc} (hs : P.underlying src = some u) (hd : P.underlying dst = some (.slice e)) (he : P.underlying e = some (.int .u8)) (hn : s.length ≤ 140737488355328) :
    ∃ cap w', (convert src dst (strV s)).run P w = .ok (.slice (some ⟨w.heap.size, 0, none⟩) s.length cap) w' ∧ OwnsB w' w.heap.size e (.slice (some ⟨w.heap.size, 0, none⟩) s.length cap) s ∧ Ext w w' ∧ w'.heap.size = w.heap.size + 1 := by
  have h1 := Go.Lib.run_convert_string_bytes (P := P) w src dst e ⟨s.toArray⟩ hs hd he
  have hz : (⟨s.toArray⟩ : ByteArray).size = s.length := bsize_mk s
  rw [hz] at h1
  have h63 : s.length ≤ maxLen := by simp only [maxLen]; omega
  have hge := grownCap_ge w s.length 0 e
  have hcm := grownCap_le_maxLen w s.length 0 e h63
  refine ⟨_, _, h1, .inr ⟨w.heap.size, _, _, _, rfl, Nat.le_refl _, bytesWorld_at_new w e ⟨s.toArray⟩, .inr rfl, hge, hcm, ?_, ?_⟩, ⟨?_, ?_, ?_, ?_, fun k hk => bytesWorld_at_old w e _ k hk⟩, bytesWorld_size w e _⟩
  · simp only [bytesCells, hz, Array.size_append, Array.size_map, Array.size_replicate, List.size_toArray]
    omega
  · simp only [bytesCells, hz, Array.toList_append, Array.toList_map]
    have e2 : (List.map (fun b : UInt8 => Value.int .u8 (b.toNat : Int)) s) = List.map byC s := rfl
    rw [e2]
    have : (List.map byC s).length = s.length := by simp
    rw [← this]
    exact List.take_left
  · rfl
  · rfl
  · rfl
  · rw [bytesWorld_size]; omega

/-- 'string(b)'. -/
theorem conv_str {P : Program} (w : World) (src dst e : TypeId) (A : Option Addr) (c : Nat) (l : Bts) (hs : P.underlying src = some (.slice e)) (he : P.underlying e = some (.int .u8)) (hd : P.underlying dst = some .string) (hR : Rd EB w A l) :
    (convert src dst (.slice A l.length c)).run P w = .ok (strV l) w := by
  by_cases h0 : l = []
  · subst h0
    cases A with
    | none => rw [run_convert_bytes_string w src dst e none _ c hs he hd]; simp [Conv.bytesToString, strV]; rfl
    | some a => exact run_convert_bytes_back w src dst e a c [] hs he hd (fun j hj => by simp at hj)
  · have hp : 0 < l.length := by cases l with
      | nil => exact absurd rfl h0
      | cons x l => simp
    obtain ⟨b, o, rfl, hb, hc⟩ := hR.at hp
    refine run_convert_bytes_back w src dst e _ c l hs he hd (fun j hj => ?_)
    obtain ⟨b', o', e1, _, hc'⟩ := hR.at hj
    injection e1 with e1
    injection e1 with e2 e3
    subst e2 e3
    have := hc' 0 _ rfl
    have e9 : EB.size = 1 := rfl
    rw [e9, Nat.mul_one, Nat.add_zero] at this
    rw [Addr.add_lit]
    exact this

end Go.Proofs.YtemkpimngbbpkaaGreat

namespace Go.Proofs.YtemkpimngbbpkaaGreat
set_option linter.unusedVariables false
set_option linter.unusedSimpArgs false
set_option linter.unusedVariables false
open Go.RowKit

structure Win where
  size : Int
  top : Int
  seen : List Int
structure Win.Ok (w : Win) : Prop where
  s1 : 1 ≤ w.size
  s2 : w.size ≤ 64
  t1 : -1 ≤ w.top
  t2 : w.top ≤ 1152921504606846976
  mem : ∀ n ∈ w.seen, 0 ≤ n ∧ n ≤ w.top ∧ w.top - w.size < n
  pw : w.seen.Pairwise (· < ·)
  last : (w.top = -1 ∧ w.seen = []) ∨ (0 ≤ w.top ∧ w.seen.getLast? = some w.top)
def Win.refB (w : Win) (n : Int) : Bool := decide (n ∈ w.seen) || decide (n ≤ w.top - w.size)
/-- The numbers, with one more, in order. -/
def Win.srt (w : Win) (n : Int) : List Int := (w.seen ++ [n]).mergeSort fun x y => decide (x ≤ y)
def Win.acc (w : Win) (n : Int) : Win := ⟨w.size, max w.top n, (w.srt n).filter fun m => decide (max w.top n - w.size < m)⟩
theorem srt_mem (w : Win) (n m : Int) : m ∈ w.srt n ↔ m ∈ w.seen ∨ m = n := by
  unfold Win.srt
  rw [(List.mergeSort_perm _ _).mem_iff, List.mem_append, List.mem_singleton]
theorem srt_pw {w : Win} (h : w.Ok) {n : Int} (hn : n ∉ w.seen) : (w.srt n).Pairwise (· < ·) := by
  have h1 : (w.srt n).Pairwise (fun x y => decide (x ≤ y) = true) := List.pairwise_mergeSort (fun a b c h1 h2 => by simp only [decide_eq_true_eq] at *; omega) (fun a b => by simp only [Bool.or_eq_true, decide_eq_true_eq]; omega) _
  have h2 : (w.srt n).Nodup := by
    unfold Win.srt
    rw [(List.mergeSort_perm _ _).nodup_iff, List.nodup_append]
    refine ⟨h.pw.imp (fun h => by omega), by simp, fun a ha b hb => ?_⟩
    rw [List.mem_singleton.1 hb]
    intro e
    exact hn (e ▸ ha)
  exact (h1.and h2).imp (fun {a b} ⟨h1, h2⟩ => by simp only [decide_eq_true_eq] at h1; omega)
theorem pw_last {l : List Int} (h : l.Pairwise (· < ·)) {y : Int} (hy : y ∈ l) (hm : ∀ x ∈ l, x ≤ y) : l.getLast? = some y := by
  have hne : l ≠ [] := by intro e; subst e; simp at hy
  rw [List.getLast?_eq_some_getLast hne]
  congr 1
  have h1 := hm _ (List.getLast_mem hne)
  obtain ⟨i, hi, e⟩ := List.mem_iff_getElem.1 hy
  rw [List.getLast_eq_getElem] at h1 ⊢
  rcases Nat.lt_or_ge i (l.length - 1) with h2 | h2
  · have := List.pairwise_iff_getElem.1 h i (l.length - 1) hi (by omega) h2
    omega
  · have : i = l.length - 1 := by omega
    subst this
    exact e
theorem srt_last {w : Win} (h : w.Ok) {n : Int} (hn : n ∉ w.seen) (h0 : 0 ≤ n) : (w.srt n).getLast? = some (max w.top n) := by
  refine pw_last (srt_pw h hn) ?_ (fun x hx => ?_)
  · rw [srt_mem]
    rcases h.last with ⟨h1, _⟩ | ⟨h1, h2⟩
    · right; omega
    · rcases Int.le_total w.top n with h3 | h3
      · right; omega
      · left
        rw [show max w.top n = w.top by omega]
        exact List.mem_of_getLast? h2
  · rcases (srt_mem w n x).1 hx with h1 | h1
    · have := h.mem x h1; omega
    · omega
theorem acc_ok {w : Win} (h : w.Ok) {n : Int} (h0 : 0 ≤ n) (h1 : n ≤ 1152921504606846976) (hr : w.refB n = false) : (w.acc n).Ok := by
  simp only [Win.refB, Bool.or_eq_false_iff, decide_eq_false_iff_not] at hr
  have a1 := h.s1
  have a2 := h.t1
  have a3 := h.t2
  have hp := (srt_pw h hr.1).sublist (List.filter_sublist (p := fun m => decide (max w.top n - w.size < m)))
  have hl := srt_last h hr.1 h0
  have hin : max w.top n ∈ (w.srt n).filter fun m => decide (max w.top n - w.size < m) := List.mem_filter.2 ⟨List.mem_of_getLast? hl, by simp only [decide_eq_true_eq]; omega⟩
  have hall : ∀ m ∈ (w.srt n).filter fun m => decide (max w.top n - w.size < m), 0 ≤ m ∧ m ≤ max w.top n ∧ max w.top n - w.size < m := by
    intro m hm
    obtain ⟨hm1, hm2⟩ := List.mem_filter.1 hm
    simp only [decide_eq_true_eq] at hm2
    rcases (srt_mem w n m).1 hm1 with h3 | h3
    · have := h.mem m h3; omega
    · omega
  refine ⟨h.s1, h.s2, by show (-1 : Int) ≤ max w.top n; omega, by show max w.top n ≤ _; omega, hall, hp, .inr ⟨by show 0 ≤ max w.top n; omega, pw_last hp hin (fun x hx => (hall x hx).2.1)⟩⟩
/-- What was accepted is refused from then on. -/
def Win.Knows (w : Win) (S : List Int) : Prop := ∀ n ∈ S, n ∈ w.seen ∨ n ≤ w.top - w.size
theorem acc_knows {w : Win} (h : w.Ok) {S : List Int} {n : Int} (hk : w.Knows S) : (w.acc n).Knows (n :: S) := by
  intro m hm
  have a1 := h.s1
  have key : m ∈ w.seen ∨ m = n → m ∈ (w.acc n).seen ∨ m ≤ (w.acc n).top - (w.acc n).size := by
    intro h1
    show m ∈ (w.srt n).filter _ ∨ m ≤ max w.top n - w.size
    by_cases h2 : max w.top n - w.size < m
    · exact .inl (List.mem_filter.2 ⟨(srt_mem w n m).2 h1, by simpa using h2⟩)
    · right; omega
  rcases List.mem_cons.1 hm with rfl | hm
  · exact key (.inr rfl)
  · rcases hk m hm with h1 | h1
    · exact key (.inl h1)
    · right
      show m ≤ max w.top n - w.size
      omega
theorem knows_ref {w : Win} {S : List Int} {n : Int} (hk : w.Knows S) (hn : n ∈ S) : w.refB n = true := by
  unfold Win.refB
  rcases hk n hn with h | h <;> simp [h]
theorem new_ref {w : Win} (h : w.Ok) {n : Int} (hn : w.top < n) : w.refB n = false := by
  have a1 := h.s1
  simp only [Win.refB, Bool.or_eq_false_iff, decide_eq_false_iff_not]
  exact ⟨fun h1 => by have := h.mem n h1; omega, by omega⟩

end Go.Proofs.YtemkpimngbbpkaaGreat
