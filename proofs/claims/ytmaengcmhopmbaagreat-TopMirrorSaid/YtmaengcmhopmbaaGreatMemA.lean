/- Lists in memory: a slice that reads as a list, a slice of the call's own, append, stores, clear, lists of numbers. -/
import Derived.Test.YtmaengcmhopmbaaGreatBase
import Derived.Below
import Derived.Laws.OwnMore
import Derived.Deep.AppendLies
import Derived.Deep.Draws
import Derived.Maps.AppendAt
import Derived.RegionTactic
import Derived.OwnWalk
import Derived.ChangeKeysEq
import Derived.Laws.IdiomCopy
import Derived.Laws.MakeOwn

/- Lists in memory: a slice that reads as a list of structs, a slice of the call's own, append. The first and the last block are the guide's words for memory, copied as the guide asks. -/
namespace Go.Proofs.YtmaengcmhopmbaaGreat
set_option linter.unusedVariables false
open Go.RowKit

theorem block_of_add (a : Addr) (n : Nat) : (a.add n).block = a.block := by unfold Addr.add; split <;> rfl
theorem add_of_add (a : Addr) (i j : Nat) : (a.add i).add j = a.add (i + j) := by
  unfold Addr.add
  by_cases hi : i = 0 <;> by_cases hj : j = 0 <;> simp [hi, hj, Nat.add_assoc]

def Reads (w : World) (B size : Nat) (A : Option Addr) (n : Nat) (xs : List Value) : Prop :=
  xs.length = n * size ∧ (0 < n → ∃ ad, A = some ad ∧ ad.block < B ∧ ∀ j u, xs[j]? = some u → w.cell? (ad.add j) = some u)

section
variable {w w' : World} {B B' size n : Nat} {A : Option Addr} {xs : List Value}
theorem Reads.none_ : Reads w B size A 0 [] := ⟨by simp, fun h => absurd h (by omega)⟩
theorem Reads.at_ {k : Nat} (h : Reads w B 1 A n xs) (hk : k < n) : ∃ ad u, A = some ad ∧ ad.block < B ∧ xs[k]? = some u ∧ w.cell? (ad.add k) = some u := by
  obtain ⟨ad, e, hb, hc⟩ := h.2 (by omega)
  have hl : k < xs.length := by have := h.1; omega
  exact ⟨ad, xs[k], e, hb, List.getElem?_eq_getElem hl, hc k _ (List.getElem?_eq_getElem hl)⟩
theorem Reads.keep (h : Reads w B size A n xs) (hk : ∀ p : Addr, p.block < B → w'.cell? p = w.cell? p) : Reads w' B size A n xs :=
  ⟨h.1, fun hn => by
    obtain ⟨ad, e, hb, hc⟩ := h.2 hn
    exact ⟨ad, e, hb, fun j u hu => (hk _ (by rw [block_of_add]; exact hb)).trans (hc j u hu)⟩⟩
theorem Reads.more (h : Reads w B size A n xs) (hB : B ≤ B') : Reads w B' size A n xs :=
  ⟨h.1, fun hn => by
    obtain ⟨ad, e, hb, hc⟩ := h.2 hn
    exact ⟨ad, e, by omega, hc⟩⟩
theorem Reads.below (h : Reads w B size A n xs) (hb : Below B w w') : Reads w' B size A n xs := h.keep fun _ hp => hb.cell hp
theorem Reads.drew (h : Reads w B size A n xs) : Reads w.drew B size A n xs := h
theorem Reads.drewN (h : Reads w B size A n xs) (k : Nat) : Reads (w.drewN k) B size A n xs := h
theorem Reads.alloc (h : Reads w B size A n xs) (hB : B ≤ w.heap.size) (o : Obj) : Reads (w.alloc o) B size A n xs := h.keep fun p hp => World.cell?_alloc_lt w o p (by omega)
theorem Reads.setCell (h : Reads w B size A n xs) {p : Addr} (hB : B ≤ p.block) (u : Value) : Reads (w.setCell p u) B size A n xs :=
  h.keep fun q hq => World.cell?_setCell_other w p q u (fun e => by subst e; omega)
theorem Reads.grown (h : Reads w B size A n xs) {row : Option Nat} (hg : w.grownBy w' row) (hB : B ≤ w.heap.size) (hr : ∀ g, row = some g → B ≤ g) : Reads w' B size A n xs :=
  h.keep fun p hp => World.cell?_of_block (hg.block p.block (by omega) (fun e => by have := hr _ e.symm; omega))
theorem Reads.cut (h : Reads w B size A n xs) {k cap : Nat} (hk : k ≤ n) (hc : n ≤ cap) :
    Reads w B size (if cap = k then A else A.map (·.add (k * size))) (n - k) (xs.drop (k * size)) := by
  refine ⟨by rw [List.length_drop, h.1, Nat.sub_mul], fun hn => ?_⟩
  obtain ⟨ad, rfl, hb, hcell⟩ := h.2 (by omega)
  rw [if_neg (by omega)]
  refine ⟨ad.add (k * size), rfl, by rw [block_of_add]; exact hb, fun j u hu => ?_⟩
  rw [add_of_add]
  exact hcell _ u (by rw [← hu, List.getElem?_drop])
theorem Reads.of_own {base : Nat} {e : TypeId} {c : Nat} (h : w.ownsRow base e size (.slice A n c) n xs) : Reads w w.heap.size size A n xs := by
  refine ⟨h.1, fun hn => ?_⟩
  obtain ⟨g, cap, hv, _, hlt⟩ := h.form hn
  have hA : A = some ⟨g, 0, none⟩ := by injection hv
  subst hA
  exact ⟨_, rfl, hlt, h.cells (g := g) rfl⟩
end

section
variable {P : Program} (w : World)

theorem run_append_of_nil (base : Nat) (t ty e : TypeId) (i : TypeInfo) (size : Nat) (ht : P.underlying t = some (.slice e)) (hi : P.info? e = some i)
    (v : Value) (n : Nat) (xs : List Value) (hown : w.ownsRow base e size v n xs) (c : Nat) : (Builtin.append_ #[t, t] ty #[v, .slice none 0 c]).run P w = .ok v w := by
  rcases hown.2 with ⟨rfl, rfl⟩ | ⟨g, cap, cur, rfl, _, _, hnc, _⟩
  · simp [Builtin.append_, run_underlying ht, sizeOf, typeInfo, hi, Builtin.lenOf, Builtin.firstCells]
  · simp [Builtin.append_, run_underlying ht, sizeOf, typeInfo, hi, Builtin.lenOf, Builtin.firstCells, hnc, storeCells]

theorem run_append_any (base : Nat) (t ty e : TypeId) (i : TypeInfo) (z : Value) (size bytes : Nat) (ht : P.underlying t = some (.slice e)) (hi : P.info? e = some i) (hz : i.zero = some z)
    (hsize : i.size = size) (hby : i.bytes = bytes) (hzs : z.cells.size = size) (hsz : 0 < size)
    (v : Value) (n : Nat) (xs : List Value) (hown : w.ownsRow base e size v n xs)
    (B : Nat) (A : Option Addr) (m c : Nat) (news : List Value) (hr : Reads w B size A m news) (h1 : ∀ u ∈ news, u.oneCell' = true)
    (h63 : n + m ≤ maxLen) (hbytes : (n + m) * bytes ≤ 140737488355328) (hbase : base ≤ w.heap.size) :
    ∃ v' w', (Builtin.append_ #[t, t] ty #[v, .slice A m c]).run P w = .ok v' w' ∧ w'.ownsRow base e size v' (n + m) (xs ++ news) ∧ w.grownBy w' v.ownBlock ∧
      (v'.ownBlock = v.ownBlock ∨ v'.ownBlock = some w.heap.size) := by
  rcases A with _ | ad
  · have hm : m = 0 := by
      rcases Nat.eq_zero_or_pos m with h0 | h0
      · exact h0
      · obtain ⟨ad, h, _⟩ := hr.2 h0
        cases h
    subst hm
    have hn : news = [] := List.eq_nil_of_length_eq_zero (by simpa using hr.1)
    subst hn
    exact ⟨v, w, run_append_of_nil w base t ty e i size ht hi v n xs hown c, by simpa using hown, World.grownBy.refl w _, .inl rfl⟩
  · have hcells : ∀ j u, news[j]? = some u → w.cell? (ad.add j) = some u := by
      intro j u hu
      rcases Nat.eq_zero_or_pos m with h0 | h0
      · subst h0
        have hn : news = [] := List.eq_nil_of_length_eq_zero (by simpa using hr.1)
        subst hn
        simp at hu
      · obtain ⟨ad', h, _, hc⟩ := hr.2 h0
        injection h with h
        subst h
        exact hc j u hu
    obtain ⟨v', w', hrun, h2, h3, _, h5⟩ := run_append_own_at (P := P) w base t ty e i z size bytes ht hi hz hsize hby hzs hsz v n xs hown ad m c news hr.1 hcells h1 h63 hbytes hbase
    exact ⟨v', w', hrun, h2, h3, h5⟩

theorem wp_append_any {o : Oper} {a : Act} {K : Act → World → Prop} {Q : Exit → Act → World → Prop} (s x : Operand) (t : TypeId)
    (ho : o.op = .call { callee := .builtin .append, args := #[s, x], argTypes := #[t, t] })
    (base : Nat) (e : TypeId) (i : TypeInfo) (z : Value) (size bytes : Nat) (ht : P.underlying t = some (.slice e)) (hi : P.info? e = some i) (hz : i.zero = some z)
    (hsize : i.size = size) (hby : i.bytes = bytes) (hzs : z.cells.size = size) (hsz : 0 < size)
    (v : Value) (n : Nat) (xs : List Value) (hs : a.eval s = v) (hown : w.ownsRow base e size v n xs)
    (B : Nat) (A : Option Addr) (m c : Nat) (news : List Value) (hx : a.eval x = .slice A m c) (hr : Reads w B size A m news) (h1 : ∀ u ∈ news, u.oneCell' = true)
    (h63 : n + m ≤ maxLen) (hbytes : (n + m) * bytes ≤ 140737488355328) (hbase : base ≤ w.heap.size)
    (h : ∀ v' w', w'.ownsRow base e size v' (n + m) (xs ++ news) → w.grownBy w' v.ownBlock → (v'.ownBlock = v.ownBlock ∨ v'.ownBlock = some w.heap.size) → K (a.put o.dst v') w') : o.wp P a w K Q := by
  obtain ⟨v', w', hrun, h2, h3, h4⟩ := run_append_any (P := P) w base t o.type e i z size bytes ht hi hz hsize hby hzs hsz v n xs hown B A m c news hr h1 h63 hbytes hbase
  unfold Oper.wp execOp
  simp only [ho, resolve, invoke, builtin, Sem.run_bind, Sem.run_pure, Result.andThen_ok, List.map_toArray, List.map_cons, List.map_nil, hs, hx, hrun]
  exact h v' w' h2 h3 h4

theorem wpList_append_any {ops : Array Oper} {rest : List Oper} {o : Oper} {a : Act} {Q : Exit → Act → World → Prop} (hgd : o.guard = none) (s x : Operand) (t : TypeId)
    (ho : o.op = .call { callee := .builtin .append, args := #[s, x], argTypes := #[t, t] })
    (base : Nat) (e : TypeId) (i : TypeInfo) (z : Value) (size bytes : Nat) (ht : P.underlying t = some (.slice e)) (hi : P.info? e = some i) (hz : i.zero = some z)
    (hsize : i.size = size) (hby : i.bytes = bytes) (hzs : z.cells.size = size) (hsz : 0 < size)
    (v : Value) (n : Nat) (xs : List Value) (hs : a.eval s = v) (hown : w.ownsRow base e size v n xs)
    (B : Nat) (A : Option Addr) (m c : Nat) (news : List Value) (hx : a.eval x = .slice A m c) (hr : Reads w B size A m news) (h1 : ∀ u ∈ news, u.oneCell' = true)
    (h63 : n + m ≤ maxLen) (hbytes : (n + m) * bytes ≤ 140737488355328) (hbase : base ≤ w.heap.size)
    (h : ∀ v' w', w'.ownsRow base e size v' (n + m) (xs ++ news) → w.grownBy w' v.ownBlock → (v'.ownBlock = v.ownBlock ∨ v'.ownBlock = some w.heap.size) → wpList P ops Q rest (a.put o.dst v') w') : wpList P ops Q (o :: rest) a w :=
  wpList_plain hgd fun _ hK => wp_append_any w s x t ho base e i z size bytes ht hi hz hsize hby hzs hsz v n xs hs hown B A m c news hx hr h1 h63 hbytes hbase fun v' w' h2 h3 h4 => hK _ _ (h v' w' h2 h3 h4)

theorem step_append_any {ops : Array Oper} {o : Oper} {a : Act} {K : Act → World → Prop} {Q : Exit → Act → World → Prop} {E : Prop} (hgd : o.guard = none) (s x : Operand) (t : TypeId)
    (ho : o.op = .call { callee := .builtin .append, args := #[s, x], argTypes := #[t, t] })
    (base : Nat) (e : TypeId) (i : TypeInfo) (z : Value) (size bytes : Nat) (ht : P.underlying t = some (.slice e)) (hi : P.info? e = some i) (hz : i.zero = some z)
    (hsize : i.size = size) (hby : i.bytes = bytes) (hzs : z.cells.size = size) (hsz : 0 < size)
    (v : Value) (n : Nat) (xs : List Value) (hs : a.eval s = v) (hown : w.ownsRow base e size v n xs)
    (B : Nat) (A : Option Addr) (m c : Nat) (news : List Value) (hx : a.eval x = .slice A m c) (hr : Reads w B size A m news) (h1 : ∀ u ∈ news, u.oneCell' = true)
    (h63 : n + m ≤ maxLen) (hbytes : (n + m) * bytes ≤ 140737488355328) (hbase : base ≤ w.heap.size)
    (h : ∀ v' w', w'.ownsRow base e size v' (n + m) (xs ++ news) → w.grownBy w' v.ownBlock → (v'.ownBlock = v.ownBlock ∨ v'.ownBlock = some w.heap.size) → K (a.put o.dst v') w') :
    if Region.wanted o (yielded ops a.tmps) = true then Oper.wp P o a w K Q else E := by
  have hw : Region.wanted o (yielded ops a.tmps) = true := by simp [Region.wanted, hgd]
  rw [if_pos hw]
  exact wp_append_any w s x t ho base e i z size bytes ht hi hz hsize hby hzs hsz v n xs hs hown B A m c news hx hr h1 h63 hbytes hbase h
end

/-- How the elements of a Go type lie in memory. -/
structure Elt (α : Type) where
  cells : α → List Value
  size : Nat
  len : ∀ x, (cells x).length = size
  pos : 0 < size
  one : ∀ x, ∀ u ∈ cells x, u.oneCell' = true

section
variable {α : Type} (E : Elt α)
def Elt.all (l : List α) : List Value := l.flatMap E.cells
theorem Elt.all_nil : E.all [] = [] := rfl
theorem Elt.all_len : ∀ l : List α, (E.all l).length = l.length * E.size
  | [] => by simp [Elt.all]
  | x :: l => by
    have h := Elt.all_len l
    simp only [Elt.all, List.flatMap_cons, List.length_append, List.length_cons] at *
    rw [E.len, h, Nat.add_mul]; omega
theorem Elt.all_append (l m : List α) : E.all (l ++ m) = E.all l ++ E.all m := by simp [Elt.all]
theorem Elt.all_one (l : List α) : ∀ u ∈ E.all l, u.oneCell' = true := by
  intro u hu
  simp only [Elt.all, List.mem_flatMap] at hu
  obtain ⟨x, _, h⟩ := hu
  exact E.one x u h
theorem Elt.all_at : ∀ (l : List α) (k : Nat) (hk : k < l.length) (j : Nat), j < E.size → (E.all l)[k * E.size + j]? = (E.cells l[k])[j]?
  | [], k, hk, _, _ => by simp at hk
  | x :: l, 0, _, j, hj => by
    simp only [Elt.all, List.flatMap_cons, Nat.zero_mul, Nat.zero_add, List.getElem_cons_zero]
    rw [List.getElem?_append_left (by rw [E.len]; exact hj)]
  | x :: l, k + 1, hk, j, hj => by
    have h := Elt.all_at l k (by simpa using hk) j hj
    simp only [Elt.all, List.flatMap_cons, List.getElem_cons_succ] at *
    rw [List.getElem?_append_right (by rw [E.len, Nat.add_mul]; omega), E.len, ← h]
    congr 1
    rw [Nat.add_mul]; omega

/-- The slice '.slice A l.length c' reads as the list l; it lies in memory that is there. -/
def Rd (w : World) (A : Option Addr) (l : List α) : Prop := Reads w w.heap.size E.size A l.length (E.all l)
variable {E} {w w' : World} {A : Option Addr} {l : List α}
theorem Rd.nil : Rd E w A [] := ⟨by simp [Elt.all], fun h => absurd h (by simp)⟩
theorem Rd.ext (h : Rd E w A l) (hb : Ext w w') : Rd E w' A l := (Reads.below h hb).more hb.size
theorem Rd.at (h : Rd E w A l) {k : Nat} (hk : k < l.length) :
    ∃ b o, A = some ⟨b, o, none⟩ ∧ b < w.heap.size ∧ ∀ j u, (E.cells l[k])[j]? = some u → w.cell? ⟨b, o + k * E.size + j, none⟩ = some u := by
  obtain ⟨ad, e, hb, hc⟩ := h.2 (by omega)
  have h0 : ∃ u, (E.all l)[0]? = some u := by
    have : 0 < (E.all l).length := by rw [E.all_len]; exact Nat.mul_pos (by omega) E.pos
    exact ⟨_, List.getElem?_eq_getElem this⟩
  obtain ⟨u0, hu0⟩ := h0
  have hsp := World.cell?_spot (hc 0 u0 hu0)
  have hsp' : ad.spot = none := by simpa [Addr.add] using hsp
  obtain ⟨b, o, sp⟩ := ad
  simp only at hsp'
  subst hsp'
  refine ⟨b, o, e, hb, fun j u hu => ?_⟩
  have hj : j < E.size := by
    have := (List.getElem?_eq_some_iff.1 hu).1
    rw [E.len] at this; exact this
  have h2 := hc (k * E.size + j) u (by rw [E.all_at l k hk j hj]; exact hu)
  rw [Addr.add_lit] at h2
  rw [Nat.add_assoc]; exact h2

/-- The slice v is the call's own (nil, or in blocks from base on), and holds the list l. -/
def Owns (E : Elt α) (w : World) (base : Nat) (e : TypeId) (v : Value) (l : List α) : Prop := w.ownsRow base e E.size v l.length (E.all l)
theorem Owns.none_ (base : Nat) (e : TypeId) : Owns E w base e (.slice none 0 0) [] := ⟨by simp [Elt.all], .inl ⟨rfl, rfl⟩⟩
theorem Owns.form {base : Nat} {e : TypeId} {v : Value} (h : Owns E w base e v l) : ∃ A cap, v = .slice A l.length cap ∧ Rd E w A l := by
  have h2 := h
  rcases h.2 with ⟨rfl, h0⟩ | ⟨g, cap, cur, rfl, _, hh, _⟩
  · have : l = [] := List.eq_nil_of_length_eq_zero h0
    subst this
    exact ⟨none, 0, rfl, Rd.nil⟩
  · exact ⟨_, cap, rfl, Reads.of_own h2⟩
theorem Owns.ext {base : Nat} {e : TypeId} {v : Value} (h : Owns E w base e v l) (hb : Ext w w') : Owns E w' base e v l :=
  ⟨h.1, h.2.imp id fun ⟨g, cap, cur, hv, hg, hh, r⟩ => ⟨g, cap, cur, hv, hg, (Below.block hb g (Array.getElem?_eq_some_iff.1 hh).1).trans hh, r⟩⟩
theorem Owns.kept {base : Nat} {e : TypeId} {v : Value} (h : Owns E w base e v l) {row : Option Nat} (hg : w.grownBy w' row) (hr : ∀ g, v.ownBlock = some g → some g ≠ row) : Owns E w' base e v l :=
  ⟨h.1, h.2.imp id fun ⟨g, cap, cur, hv, hgb, hh, r⟩ => ⟨g, cap, cur, hv, hgb, (hg.block g (Array.getElem?_eq_some_iff.1 hh).1 (hr g (by rw [hv]; rfl))).trans hh, r⟩⟩
theorem Owns.mono {base base' : Nat} {e : TypeId} {v : Value} (h : Owns E w base e v l) (hb : base' ≤ base) : Owns E w base' e v l :=
  ⟨h.1, h.2.imp id fun ⟨g, cap, cur, hv, hg, r⟩ => ⟨g, cap, cur, hv, Nat.le_trans hb hg, r⟩⟩
theorem Owns.block {base : Nat} {e : TypeId} {v : Value} (h : Owns E w base e v l) {g : Nat} (hv : v.ownBlock = some g) : base ≤ g ∧ g < w.heap.size := by
  rcases h.2 with ⟨rfl, _⟩ | ⟨g', cap, cur, rfl, hb, hh, _⟩
  · cases hv
  · cases hv
    exact ⟨hb, (Array.getElem?_eq_some_iff.1 hh).1⟩

end

end Go.Proofs.YtmaengcmhopmbaaGreat

/- Lists in memory: append of one element to a list of the call's own. -/
namespace Go.Proofs.YtmaengcmhopmbaaGreat
set_option linter.unusedVariables false
open Go.RowKit

section
variable {α : Type} {E : Elt α} {w w' : World} {A : Option Addr} {l : List α} {P : Program}
theorem reads_one {g : Nat} {e : TypeId} {y : α} (h : Blk w g e (E.cells y).toArray) : Reads w w.heap.size E.size (some ⟨g, 0, none⟩) 1 (E.cells y) :=
  ⟨by rw [E.len, Nat.one_mul], fun _ => ⟨_, rfl, h.lt, fun j u hu => by
    rw [Addr.add_lit, Nat.zero_add, h.cell]
    simpa using hu⟩⟩

theorem wpList_push {ops : Array Oper} {rest : List Oper} {o : Oper} {a : Act} {Q : Exit → Act → World → Prop} (hgd : o.guard = none) (s x : Operand) (t : TypeId)
    (ho : o.op = .call { callee := .builtin .append, args := #[s, x], argTypes := #[t, t] })
    (base : Nat) (e : TypeId) (i : TypeInfo) (z : Value) (bytes : Nat) (ht : P.underlying t = some (.slice e)) (hi : P.info? e = some i) (hz : i.zero = some z)
    (hsize : i.size = E.size) (hby : i.bytes = bytes) (hzs : z.cells.size = E.size)
    (v : Value) (hs : a.eval s = v) (hown : Owns E w base e v l)
    (g : Nat) (y : α) (hx : a.eval x = .slice (some ⟨g, 0, none⟩) 1 1) (hy : Blk w g e (E.cells y).toArray)
    (h63 : l.length + 1 ≤ maxLen) (hbytes : (l.length + 1) * bytes ≤ 140737488355328) (hbase : base ≤ w.heap.size)
    (h : ∀ v' w', Owns E w' base e v' (l ++ [y]) → w.grownBy w' v.ownBlock → (v'.ownBlock = v.ownBlock ∨ v'.ownBlock = some w.heap.size) → wpList P ops Q rest (a.put o.dst v') w') : wpList P ops Q (o :: rest) a w :=
  wpList_append_any w hgd s x t ho base e i z E.size bytes ht hi hz hsize hby hzs E.pos v l.length (E.all l) hs hown w.heap.size _ 1 1 (E.cells y) hx (reads_one hy) (E.one y) h63 hbytes hbase
    fun v' w' h1 h2 h3 => h v' w' (by
      unfold Owns
      rw [E.all_append, List.length_append]
      simpa [Elt.all] using h1) h2 h3

/-- The world behind an append: old memory stays. -/
theorem ext_grown {w0 : World} {base : Nat} {e : TypeId} {v : Value} (h0 : Ext w0 w) (hown : Owns E w base e v l) (hb : w0.heap.size ≤ base) (hg : w.grownBy w' v.ownBlock) : Ext w0 w' :=
  Below.grown h0 hg h0.size (fun k hk => Nat.le_trans hb (hown.block hk).1)
end

end Go.Proofs.YtmaengcmhopmbaaGreat

/- Lists in memory: append of a whole list to a list of the call's own. -/
namespace Go.Proofs.YtmaengcmhopmbaaGreat
set_option linter.unusedVariables false
open Go.RowKit

section
variable {α : Type} {E : Elt α} {w w' : World} {A : Option Addr} {l m : List α} {P : Program}
theorem Owns.rd {base : Nat} {e : TypeId} {n c : Nat} (h : Owns E w base e (.slice A n c) l) : Rd E w A l := by
  obtain ⟨A2, c2, h2, hr⟩ := h.form
  injection h2 with h3 h4 h5
  rw [h3]; exact hr
theorem Owns.len {base : Nat} {e : TypeId} {n c : Nat} (h : Owns E w base e (.slice A n c) l) : n = l.length := by
  obtain ⟨A2, c2, h2, hr⟩ := h.form
  injection h2

theorem rd_blk {g : Nat} {e : TypeId} (h : Blk w g e (E.all l).toArray) : Rd E w (some ⟨g, 0, none⟩) l :=
  ⟨E.all_len l, fun _ => ⟨_, rfl, h.lt, fun j u hu => by
    rw [Addr.add_lit, Nat.zero_add, h.cell]
    simpa using hu⟩⟩
theorem Owns.made (w : World) (base : Nat) (e : TypeId) (hb : base ≤ w.heap.size) : Owns E (w.alloc (.cells #[] e)) base e (.slice (some ⟨w.heap.size, 0, none⟩) 0 0) [] :=
  World.ownsRow_made w #[] 0 hb (by unfold maxLen; omega) (by simp)

theorem step_push {ops : Array Oper} {o : Oper} {a : Act} {K : Act → World → Prop} {Q : Exit → Act → World → Prop} {Z : Prop} (hgd : o.guard = none) (s x : Operand) (t : TypeId)
    (ho : o.op = .call { callee := .builtin .append, args := #[s, x], argTypes := #[t, t] })
    (base : Nat) (e : TypeId) (i : TypeInfo) (z : Value) (bytes : Nat) (ht : P.underlying t = some (.slice e)) (hi : P.info? e = some i) (hz : i.zero = some z)
    (hsize : i.size = E.size) (hby : i.bytes = bytes) (hzs : z.cells.size = E.size)
    (v : Value) (hs : a.eval s = v) (hown : Owns E w base e v l)
    (g : Nat) (y : α) (hx : a.eval x = .slice (some ⟨g, 0, none⟩) 1 1) (hy : Blk w g e (E.cells y).toArray)
    (h63 : l.length + 1 ≤ maxLen) (hbytes : (l.length + 1) * bytes ≤ 140737488355328) (hbase : base ≤ w.heap.size)
    (h : ∀ v' w', Owns E w' base e v' (l ++ [y]) → w.grownBy w' v.ownBlock → (v'.ownBlock = v.ownBlock ∨ v'.ownBlock = some w.heap.size) → K (a.put o.dst v') w') :
    if Region.wanted o (yielded ops a.tmps) = true then Oper.wp P o a w K Q else Z :=
  step_append_any w hgd s x t ho base e i z E.size bytes ht hi hz hsize hby hzs E.pos v l.length (E.all l) hs hown w.heap.size _ 1 1 (E.cells y) hx (reads_one hy) (E.one y) h63 hbytes hbase
    fun v' w' h1 h2 h3 => h v' w' (by
      unfold Owns
      rw [E.all_append, List.length_append]
      simpa [Elt.all] using h1) h2 h3

/-- Where 's[k:]' lies. -/
def cutA (A : Option Addr) (c k s : Nat) : Option Addr := if c = k then A else A.map (·.add (k * s))
theorem Rd.cut {c k : Nat} (h : Rd E w A l) (hk : k ≤ l.length) (hc : l.length ≤ c) : Rd E w (cutA A c k E.size) (l.drop k) := by
  have h1 := Reads.cut h hk hc
  have h2 : (E.all l).drop (k * E.size) = E.all (l.drop k) := by
    have : E.all l = E.all (l.take k) ++ E.all (l.drop k) := by rw [← E.all_append, List.take_append_drop]
    rw [this, List.drop_append, List.drop_eq_nil_of_le (by rw [E.all_len, List.length_take]; rw [Nat.min_eq_left hk]; exact Nat.le_refl _), E.all_len, List.length_take, Nat.min_eq_left hk, Nat.sub_self, List.drop_zero, List.nil_append]
  unfold Rd
  rw [List.length_drop, ← h2]
  exact h1
theorem run_cut {t e : TypeId} {i : TypeInfo} {sz : Nat} (ht : P.underlying t = some (.slice e)) (hi : P.info? e = some i) (hsz : i.size = sz) {n c k : Nat} (hk : k ≤ n) (w : World) :
    (Instr.slice t (.slice A n c) (some (.int .i64 (k : Int))) none none).run P w = .ok (.slice (cutA A c k sz) (n - k) (c - k)) w := by
  have he : P.elem t = e := by simp [Program.elem, ht]
  rw [run_slice_l w t A n c (by rw [he]; exact ht) .i64 (k : Int) (by omega) (by omega), he, run_sizeOf w hi]
  simp [Result.andThen, sliced, cutA, Program.cellsOf, hi, hsz]
theorem run_cutAt {t e : TypeId} {i : TypeInfo} {sz : Nat} (ht : P.underlying t = some (.slice e)) (hi : P.info? e = some i) (hsz : i.size = sz) {n c k : Nat} (hk : k ≤ n) (w : World) :
    (Instr.sliceAt t (.slice A n c) (some (.int .i64 (k : Int))) none none).run P w = .ok (.slice (cutA A c k sz) (n - k) (c - k)) w := by
  have he : P.elem t = e := by simp [Program.elem, ht]
  rw [run_sliceAt_slice w t _ _ _ _ (by rw [he]; exact ht), run_cut ht hi hsz hk]

theorem wpList_cat {ops : Array Oper} {rest : List Oper} {o : Oper} {a : Act} {Q : Exit → Act → World → Prop} (hgd : o.guard = none) (s x : Operand) (t : TypeId)
    (ho : o.op = .call { callee := .builtin .append, args := #[s, x], argTypes := #[t, t] })
    (base : Nat) (e : TypeId) (i : TypeInfo) (z : Value) (bytes : Nat) (ht : P.underlying t = some (.slice e)) (hi : P.info? e = some i) (hz : i.zero = some z)
    (hsize : i.size = E.size) (hby : i.bytes = bytes) (hzs : z.cells.size = E.size)
    (v : Value) (hs : a.eval s = v) (hown : Owns E w base e v l)
    (c n : Nat) (hx : a.eval x = .slice A n c) (hn : n = m.length) (hr : Rd E w A m)
    (h63 : l.length + m.length ≤ maxLen) (hbytes : (l.length + m.length) * bytes ≤ 140737488355328) (hbase : base ≤ w.heap.size)
    (h : ∀ v' w', Owns E w' base e v' (l ++ m) → w.grownBy w' v.ownBlock → (v'.ownBlock = v.ownBlock ∨ v'.ownBlock = some w.heap.size) → wpList P ops Q rest (a.put o.dst v') w') : wpList P ops Q (o :: rest) a w := by
  subst hn
  exact wpList_append_any w hgd s x t ho base e i z E.size bytes ht hi hz hsize hby hzs E.pos v l.length (E.all l) hs hown w.heap.size A m.length c (E.all m) hx hr (E.all_one m) h63 hbytes hbase
    fun v' w' h1 h2 h3 => h v' w' (by
      unfold Owns
      rw [E.all_append, List.length_append]
      exact h1) h2 h3
end

end Go.Proofs.YtmaengcmhopmbaaGreat

/- Lists in memory: a store into a list of the call's own; clear. -/
namespace Go.Proofs.YtmaengcmhopmbaaGreat
set_option linter.unusedVariables false
open Go.RowKit

/-- An array with a run of cells written. -/
def arrSets (cs : Array Value) : Nat → List Value → Array Value
  | _, [] => cs
  | o, v :: vs => arrSets (cs.setIfInBounds o v) (o + 1) vs
theorem arrSets_size : ∀ (vs : List Value) (cs : Array Value) (o : Nat), (arrSets cs o vs).size = cs.size
  | [], _, _ => rfl
  | v :: vs, cs, o => by simp [arrSets, arrSets_size vs]
theorem arrSets_get : ∀ (vs : List Value) (cs : Array Value) (o q : Nat), o + vs.length ≤ cs.size → (arrSets cs o vs)[q]? = if o ≤ q ∧ q < o + vs.length then vs[q - o]? else cs[q]?
  | [], cs, o, q, _ => by
    simp only [arrSets, List.length_nil]
    rw [if_neg (by omega)]
  | v :: vs, cs, o, q, h => by
    simp only [arrSets]
    rw [List.length_cons] at h
    rw [arrSets_get vs _ (o + 1) q (by simp; omega), Array.getElem?_setIfInBounds, List.length_cons]
    by_cases h1 : o + 1 ≤ q ∧ q < o + 1 + vs.length
    · rw [if_pos h1, if_pos (by omega)]
      obtain ⟨d, rfl⟩ : ∃ d, q = o + 1 + d := ⟨q - (o + 1), by omega⟩
      rw [show o + 1 + d - (o + 1) = d by omega, show o + 1 + d - o = d + 1 by omega]
      rfl
    · rw [if_neg h1]
      by_cases h2 : o = q
      · subst h2
        rw [if_pos rfl, if_pos (by omega), if_pos (by omega), Nat.sub_self]
        rfl
      · rw [if_neg h2, if_neg (by omega)]

theorem Blk.setCells_ : ∀ (vs : List Value) {w : World} {g : Nat} {t : TypeId} {cs : Array Value} (_ : Blk w g t cs) (o : Nat), Blk (w.setCells g o vs) g t (arrSets cs o vs)
  | [], _, _, _, _, h, _ => h
  | v :: vs, _, _, _, _, h, o => Blk.setCells_ vs (h.set_ o v) (o + 1)

theorem grown_setCells : ∀ (vs : List Value) {a w : World} {g : Nat} (_ : a.grownBy w (some g)) (o : Nat), a.grownBy (w.setCells g o vs) (some g)
  | [], _, _, _, h, _ => h
  | v :: vs, a, w, g, h, o => grown_setCells vs (w := w.setCell ⟨g, o, none⟩ v) ⟨h.os, h.tape, h.output, by simpa [World.setCell] using h.size, fun i hi hne => (Below.heap_setCell w ⟨g, o, none⟩ v i (fun e => hne (by rw [e]))).trans (h.block i hi hne)⟩ (o + 1)
theorem ext_setCells {a w : World} {g : Nat} (h : Ext a w) (hg : a.heap.size ≤ g) (o : Nat) (vs : List Value) : Ext a (w.setCells g o vs) :=
  Below.grown h (grown_setCells vs (World.grownBy.refl w _) o) h.size (fun k hk => by injection hk with hk; omega)

section
variable {α : Type} {E : Elt α} {w w' : World} {A : Option Addr} {l m : List α} {P : Program}
theorem all_set (k : Nat) (y : α) : ∀ (m : List α), k < m.length → ∀ q, (E.all (m.set k y))[q]? = if k * E.size ≤ q ∧ q < k * E.size + E.size then (E.cells y)[q - k * E.size]? else (E.all m)[q]? := by
  intro m hk q
  have hpos := E.pos
  by_cases hq : q < m.length * E.size
  · have hk1 : q / E.size < m.length := Nat.div_lt_of_lt_mul (by rw [Nat.mul_comm]; exact hq)
    have hr : q % E.size < E.size := Nat.mod_lt _ hpos
    have e1 : q / E.size * E.size + q % E.size = q := by rw [Nat.mul_comm]; exact Nat.div_add_mod q E.size
    have h1 := E.all_at (m.set k y) (q / E.size) (by simpa using hk1) (q % E.size) hr
    have h2 := E.all_at m (q / E.size) hk1 (q % E.size) hr
    rw [e1] at h1 h2
    rw [h1, h2]
    by_cases e : q / E.size = k
    · subst e
      rw [if_pos (by constructor <;> omega)]
      simp only [List.getElem_set_self]
      congr 1
      omega
    · rw [if_neg]
      · rw [List.getElem_set_ne (by omega)]
      · rintro ⟨a, b⟩
        apply e
        exact Nat.div_eq_of_lt_le a (by rw [Nat.add_mul, Nat.one_mul]; exact b)
  · rw [if_neg, List.getElem?_eq_none (by rw [E.all_len]; simpa using Nat.le_of_not_lt hq), List.getElem?_eq_none (by rw [E.all_len]; exact Nat.le_of_not_lt hq)]
    rintro ⟨a, b⟩
    apply hq
    have : (k + 1) * E.size ≤ m.length * E.size := Nat.mul_le_mul_right _ hk
    rw [Nat.add_mul, Nat.one_mul] at this
    omega

theorem Owns.set_ {base : Nat} {e : TypeId} {g n c : Nat} (h : Owns E w base e (.slice (some ⟨g, 0, none⟩) n c) m) {k : Nat} (hk : k < m.length) (y : α) :
    Owns E (w.setCells g (k * E.size) (E.cells y)) base e (.slice (some ⟨g, 0, none⟩) n c) (m.set k y) := by
  have hn := h.len
  subst hn
  rcases h.2 with ⟨h1, _⟩ | ⟨g', cap, cur, h1, hg, hh, hnc, hcap, hsz, ht⟩
  · cases h1
  · injection h1 with h2 h3 h4
    injection h2 with h2
    injection h2 with h2
    subst h2 h4
    have hb := Blk.setCells_ (E.cells y) (show Blk w g e cur from hh) (k * E.size)
    refine ⟨by rw [E.all_len], .inr ⟨g, c, _, by rw [List.length_set], hg, hb, by rw [List.length_set]; exact hnc, hcap, by rw [arrSets_size]; exact hsz, ?_⟩⟩
    rw [List.length_set]
    have hle : (k + 1) * E.size ≤ m.length * E.size := Nat.mul_le_mul_right _ hk
    have hle2 : m.length * E.size ≤ c * E.size := Nat.mul_le_mul_right _ hnc
    rw [Nat.add_mul, Nat.one_mul] at hle
    apply List.ext_getElem?
    intro q
    rw [all_set k y m hk q]
    by_cases hq : q < m.length * E.size
    · rw [List.getElem?_take_of_lt hq, Array.getElem?_toList, arrSets_get _ _ _ _ (by rw [E.len]; omega), E.len]
      split
      · rfl
      · rw [← ht, List.getElem?_take_of_lt hq, Array.getElem?_toList]
    · rw [List.getElem?_take_eq_none (by omega), if_neg (by omega), List.getElem?_eq_none (by rw [E.all_len]; omega)]

/-- The cells of element k may be written. -/
theorem Owns.there_ {base : Nat} {e : TypeId} {g n c : Nat} (h : Owns E w base e (.slice (some ⟨g, 0, none⟩) n c) m) :
    ∃ cur : Array Value, Blk w g e cur ∧ cur.size = c * E.size ∧ m.length ≤ c ∧ ∀ (k : Nat) (hk : k < m.length) (j : Nat), j < E.size → cur[k * E.size + j]? = (E.cells m[k])[j]? := by
  have hn := h.len
  subst hn
  rcases h.2 with ⟨h1, _⟩ | ⟨g', cap, cur, h1, hg, hh, hnc, hcap, hsz, ht⟩
  · cases h1
  · injection h1 with h2 h3 h4
    injection h2 with h2
    injection h2 with h2
    subst h2 h4
    refine ⟨cur, hh, hsz, hnc, fun k hk j hj => ?_⟩
    rw [← E.all_at m k hk j hj, ← ht]
    have hle : (k + 1) * E.size ≤ m.length * E.size := Nat.mul_le_mul_right _ hk
    rw [Nat.add_mul, Nat.one_mul] at hle
    rw [List.getElem?_take_of_lt (by omega), Array.getElem?_toList]
end

end Go.Proofs.YtmaengcmhopmbaaGreat

/- Lists in memory: lists of integers; a list's beginning. -/
namespace Go.Proofs.YtmaengcmhopmbaaGreat
set_option linter.unusedVariables false
open Go.RowKit

def EInt : Elt Int := ⟨fun x => [.int .i64 x], 1, fun _ => rfl, by omega, fun x u hu => by simp at hu; subst hu; rfl⟩
theorem Rd.int {w : World} {A : Option Addr} {l : List Int} (h : Rd EInt w A l) {k : Nat} (hk : k < l.length) : ∃ b o, A = some ⟨b, o, none⟩ ∧ b < w.heap.size ∧ w.cell? ⟨b, o + k, none⟩ = some (.int .i64 l[k]) := by
  obtain ⟨b, o, rfl, hb, hc⟩ := h.at hk
  refine ⟨b, o, rfl, hb, ?_⟩
  have := hc 0 (.int .i64 l[k]) rfl
  simpa [EInt] using this

section
variable {α : Type} {E : Elt α} {w w' : World} {A : Option Addr} {l m : List α} {P : Program}
theorem Rd.take (h : Rd E w A l) (k : Nat) : Rd E w A (l.take k) := by
  refine ⟨E.all_len _, fun hn => ?_⟩
  have hn' : 0 < (l.take k).length := hn
  rw [List.length_take] at hn'
  obtain ⟨ad, e, hb, hc⟩ := h.2 (by omega)
  refine ⟨ad, e, hb, fun j u hu => hc j u ?_⟩
  have : E.all l = E.all (l.take k) ++ E.all (l.drop k) := by rw [← E.all_append, List.take_append_drop]
  rw [this, List.getElem?_append_left (List.getElem?_eq_some_iff.1 hu).1]
  exact hu
theorem addr_map0 (A : Option Addr) (s : Nat) : A.map (·.add (0 * s)) = A := by
  cases A <;> simp [Addr.add]
theorem run_take {t e : TypeId} {i : TypeInfo} (ht : P.underlying t = some (.slice e)) (hi : P.info? e = some i) {n c k : Nat} (hk : k ≤ c) (w : World) :
    (Instr.slice t (.slice A n c) none (some (.int .i64 (k : Int))) none).run P w = .ok (.slice A k c) w := by
  have he : P.elem t = e := by simp [Program.elem, ht]
  rw [run_slice_h w t A n c (by rw [he]; exact ht) .i64 (k : Int) (by omega) (by omega), he, run_sizeOf w hi]
  simp only [Result.andThen, sliced, addr_map0, ite_self]
  simp
theorem run_takeAt {t e : TypeId} {i : TypeInfo} (ht : P.underlying t = some (.slice e)) (hi : P.info? e = some i) {n c k : Nat} (hk : k ≤ c) (w : World) :
    (Instr.sliceAt t (.slice A n c) none (some (.int .i64 (k : Int))) none).run P w = .ok (.slice A k c) w := by
  have he : P.elem t = e := by simp [Program.elem, ht]
  rw [run_sliceAt_slice w t _ _ _ _ (by rw [he]; exact ht)]
  exact run_take ht hi hk w
theorem take_snoc {l : List α} {k : Nat} {x : α} (h : k < l.length) (hx : l[k] = x) : l.take (k + 1) = l.take k ++ [x] := by
  rw [List.take_succ_eq_append_getElem h, hx]
theorem any_step {p : α → Bool} {l : List α} {k : Nat} {y : α} (h : k < l.length) (hy : l[k] = y) (h0 : (l.take k).any p = false) (h1 : p y = false) : (l.take (k + 1)).any p = false := by
  rw [take_snoc h hy, List.any_append, h0]; simp [h1]
theorem any_hit {p : α → Bool} {l : List α} {k : Nat} {y : α} (h : k < l.length) (hy : l[k] = y) (h1 : p y = true) : l.any p = true :=
  List.any_eq_true.2 ⟨y, hy ▸ List.getElem_mem h, h1⟩
def findI (p : α → Bool) (l : List α) : Int := if l.any p then (l.findIdx p : Nat) else -1
theorem findI_at {p : α → Bool} {l : List α} {k : Nat} (h : k < l.length) (h1 : (l.take k).any p = false) (h2 : p l[k] = true) : findI p l = k := by
  have h3 : l.any p = true := List.any_eq_true.2 ⟨l[k], List.getElem_mem h, h2⟩
  have h4 : l.findIdx p = k := (List.findIdx_eq h).2 ⟨h2, fun j hj => by
    have h5 := List.any_eq_false.1 h1 (l[j]'(by omega)) (by
      rw [List.mem_take_iff_getElem]
      exact ⟨j, by omega, rfl⟩)
    simpa using h5⟩
  unfold findI
  rw [if_pos h3, h4]
theorem findI_nope {p : α → Bool} {l : List α} (h : l.any p = false) : findI p l = -1 := by unfold findI; rw [h]; rfl
theorem findI_neg {p : α → Bool} {l : List α} : decide (0 ≤ findI p l) = l.any p := by
  unfold findI
  split
  · rename_i h; rw [h]; simp
  · rename_i h; simp at h; simp; exact h
end

end Go.Proofs.YtmaengcmhopmbaaGreat

/- Lists of integers of the call's own: reading and writing one; what stays when one block is written. -/
namespace Go.Proofs.YtmaengcmhopmbaaGreat
set_option linter.unusedVariables false
open Go.RowKit

/-- An element of a list of numbers. -/
def gi (m : List Int) (i : Int) : Int := m.getD i.toNat 0
theorem gi_get {m : List Int} {k : Nat} (h : k < m.length) : gi m (k : Int) = m[k] := by simp [gi, h]
theorem gi_of {m : List Int} {i : Int} (h0 : 0 ≤ i) (h : i.toNat < m.length) : gi m i = m[i.toNat] := by simp [gi, h]
theorem gi_mem {m : List Int} {i : Int} (h : i.toNat < m.length) : gi m i ∈ m := by simp [gi, h]
theorem gi_set {m : List Int} {i j v : Int} (hi : i.toNat < m.length) : gi (m.set i.toNat v) j = if j.toNat = i.toNat then v else gi m j := by
  unfold gi
  simp only [List.getD_eq_getElem?_getD]
  by_cases h : j.toNat = i.toNat
  · rw [if_pos h, h, List.getElem?_set_self hi]; rfl
  · rw [if_neg h, List.getElem?_set_ne (by omega)]

theorem Owns.gi {w : World} {base : Nat} {e : TypeId} {g n c : Nat} {m : List Int} (h : Owns EInt w base e (.slice (some ⟨g, 0, none⟩) n c) m) {i : Int} (hi : i.toNat < m.length) :
    w.cell? ⟨g, i.toNat, none⟩ = some (.int .i64 (gi m i)) := by
  obtain ⟨cur, hb, _, _, hc⟩ := h.there_
  have h1 := hc i.toNat hi 0 (by decide)
  have e1 : i.toNat * EInt.size + 0 = i.toNat := by show i.toNat * 1 + 0 = _; omega
  rw [e1] at h1
  rw [hb.cell, h1]
  simp [EInt, Go.Proofs.YtmaengcmhopmbaaGreat.gi, hi]
theorem Owns.free {w : World} {base : Nat} {e : TypeId} {g n c : Nat} {m : List Int} (h : Owns EInt w base e (.slice (some ⟨g, 0, none⟩) n c) m) : g < w.heap.size ∧ ∀ i, w.frozen? ⟨g, i, none⟩ = false := by
  obtain ⟨cur, hb, _, _, hc⟩ := h.there_
  exact ⟨hb.lt, hb.frozen⟩
theorem Owns.seti {w : World} {base : Nat} {e : TypeId} {g n c : Nat} {m : List Int} (h : Owns EInt w base e (.slice (some ⟨g, 0, none⟩) n c) m) {k : Nat} (hk : k < m.length) (y : Int) :
    Owns EInt (w.setCell ⟨g, k, none⟩ (.int .i64 y)) base e (.slice (some ⟨g, 0, none⟩) n c) (m.set k y) := by
  have h1 := h.set_ hk y
  have e1 : k * EInt.size = k := Nat.mul_one k
  rw [e1] at h1
  exact h1
theorem grown_setCell {a w : World} {g : Nat} (h : a.grownBy w (some g)) (o : Nat) (u : Value) : a.grownBy (w.setCell ⟨g, o, none⟩ u) (some g) := grown_setCells [u] h o
theorem grown_ext {a w w' : World} {row : Option Nat} (h : a.grownBy w row) (hb : Ext w w') : a.grownBy w' row :=
  ⟨hb.os.trans h.os, hb.tape.trans h.tape, hb.output.trans h.output, Nat.le_trans h.size hb.size, fun i hi hn => (hb.block i (Nat.lt_of_lt_of_le hi h.size)).trans (h.block i hi hn)⟩
theorem ext_of_grown {w0 a w : World} {g : Nat} (h0 : Ext w0 a) (h : a.grownBy w (some g)) (hg : w0.heap.size ≤ g) : Ext w0 w :=
  Below.grown h0 h h0.size (fun k hk => by injection hk with hk; omega)
theorem Blk.keptg {a w : World} {g b : Nat} {t : TypeId} {cs : Array Value} (h : Blk a b t cs) (hg : a.grownBy w (some g)) (hne : b ≠ g) : Blk w b t cs :=
  Blk.kept h hg (fun e => hne (by injection e))
theorem Owns.madeInts (w : World) (base : Nat) (e : TypeId) (n : Nat) (hb : base ≤ w.heap.size) (hm : n ≤ maxLen) (cur : Array Value) (hc : cur = Array.replicate n (.int .i64 0)) :
    Owns EInt (w.alloc (.cells cur e)) base e (.slice (some ⟨w.heap.size, 0, none⟩) n n) (List.replicate n 0) := by
  subst hc
  refine ⟨by rw [EInt.all_len], .inr ⟨w.heap.size, n, _, by simp, hb, heap_alloc_new w _, by simp, hm, by simp [EInt], ?_⟩⟩
  have e1 : EInt.all (List.replicate n (0 : Int)) = List.replicate n (.int .i64 0) := by
    unfold Elt.all EInt
    induction n with
    | zero => rfl
    | succ k ih => simp [List.replicate_succ, ih (by omega)]
  rw [e1]
  simp [EInt]

theorem Rd.gi {w : World} {b o : Nat} {l : List Int} (h : Rd EInt w (some ⟨b, o, none⟩) l) {i : Int} (hi : i.toNat < l.length) : w.cell? ⟨b, o + i.toNat, none⟩ = some (.int .i64 (gi l i)) ∧ b < w.heap.size := by
  obtain ⟨b', o', e', hb', hc⟩ := h.int hi
  injection e' with e'
  injection e' with e1 e2 _
  subst e1 e2
  refine ⟨?_, hb'⟩
  rw [hc]
  simp [Go.Proofs.YtmaengcmhopmbaaGreat.gi, hi]
theorem Owns.cap {α : Type} {E : Elt α} {w : World} {base : Nat} {e : TypeId} {A : Option Addr} {n c : Nat} {m : List α} (h : Owns E w base e (.slice A n c) m) : m.length ≤ c := by
  rcases h.2 with ⟨h1, h2⟩ | ⟨g', cap, cur, h1, hg, hh, hnc, _⟩
  · omega
  · injection h1 with _ _ h4
    omega
theorem madeCells_one (z : Value) (n : Nat) : madeCells #[z] n = Array.replicate n z := by
  apply Array.ext
  · simp [madeCells]
  · intro i h1 h2
    simp [madeCells, Nat.mod_one]
theorem run_make1 {P : Program} {t e : TypeId} {i : TypeInfo} {z : Value} (ht : P.underlying t = some (.slice e)) (hi : P.info? e = some i) (hz : i.zero = some z) (hsz : i.size = 1) (hby : i.bytes ≤ 64) (hzc : z.cells = #[z]) {n : Nat} (hn : n ≤ 1000000) (w : World) :
    (Instr.makeSlice t (.int .i64 (n : Int)) (.int .i64 (n : Int))).run P w = .ok (.slice (some ⟨w.heap.size, 0, none⟩) n n) (w.alloc (.cells (Array.replicate n z) e)) := by
  have hb : (i.bytes : Int) * (n : Int) ≤ 281474976710656 := by
    have h1 : i.bytes * n ≤ 64 * 1000000 := Nat.mul_le_mul hby hn
    have h2 : ((i.bytes * n : Nat) : Int) ≤ 281474976710656 := by omega
    rwa [Int.natCast_mul] at h2
  have hr := run_make (P := P) w t e i z ht hi hz .i64 .i64 n n (by omega) (by omega) hb (by omega)
  rw [hzc, hsz] at hr
  simp only [Int.toNat_natCast, Nat.mul_one, madeCells_one] at hr
  exact hr
theorem fill_step (n j : Nat) (a b : Int) (h : j < n) : (List.replicate j a ++ List.replicate (n - j) b).set j a = List.replicate (j + 1) a ++ List.replicate (n - (j + 1)) b := by
  rw [List.set_append_right _ _ (by simp)]
  simp only [List.length_replicate, Nat.sub_self]
  obtain ⟨d, hd⟩ : ∃ d, n - j = d + 1 := ⟨n - j - 1, by omega⟩
  rw [hd, show n - (j + 1) = d by omega, List.replicate_succ, List.set_cons_zero, List.replicate_succ', List.append_assoc]
  rfl

end Go.Proofs.YtmaengcmhopmbaaGreat
