/- Plans, requests, earliest arrivals, latest times, profiles: plain data and their laws. · Update: histories of changes, plain functions and laws. · Rows of bytes of the call's own, with or without the mark of a conversion. · slices.Reverse of a list of hops of the call's own. · Security: signatures, plain functions. -/
import Derived.Lib.FrozenHead
import Derived.Lib.ConvBytes
import Derived.Laws.BytesString
import Derived.Test.YtemkpimngbbpkaaGreatRows
import Derived.BigRegion
import Derived.Test.YtemkpimngbbpkaaGreatQm01
namespace Go.Proofs.YtemkpimngbbpkaaGreat
set_option linter.unusedVariables false
set_option linter.unusedSimpArgs false
set_option linter.unusedVariables false
open Go.RowKit

def ECon : Elt Con := ⟨fun c => c.cells.toList, 7, fun _ => rfl, by omega, fun x u hu => by simp [Con.cells] at hu; rcases hu with h | h | h | h | h | h | h <;> subst h <;> rfl⟩
theorem Rd.con {w : World} {A : Option Addr} {l : List Con} (h : Rd ECon w A l) {k : Nat} (hk : k < l.length) : ∃ b o, A = some ⟨b, o, none⟩ ∧ b < w.heap.size ∧
    w.cell? ⟨b, o + k * 7, none⟩ = some (.int .i64 l[k].src) ∧ w.cell? ⟨b, o + k * 7 + 1, none⟩ = some (.int .i64 l[k].dst) ∧ w.cell? ⟨b, o + k * 7 + 2, none⟩ = some (.int .i64 l[k].st) ∧ w.cell? ⟨b, o + k * 7 + 3, none⟩ = some (.int .i64 l[k].en) ∧
    w.cell? ⟨b, o + k * 7 + 4, none⟩ = some (.int .i64 l[k].rate) ∧ w.cell? ⟨b, o + k * 7 + 5, none⟩ = some (.int .i64 l[k].rng) ∧ w.cell? ⟨b, o + k * 7 + 6, none⟩ = some (.int .i64 l[k].loss) := by
  obtain ⟨b, o, rfl, hb, hc⟩ := h.at hk
  exact ⟨b, o, rfl, hb, hc 0 _ rfl, hc 1 _ rfl, hc 2 _ rfl, hc 3 _ rfl, hc 4 _ rfl, hc 5 _ rfl, hc 6 _ rfl⟩

structure Pln where
  quo : List Int
  cons : List Con
def Pln.val (Aq : Option Addr) (cq : Nat) (Ac : Option Addr) (cc : Nat) (p : Pln) : Value := .agg #[.slice Aq p.quo.length cq, .slice Ac p.cons.length cc]
structure PlnRd (w : World) (Aq : Option Addr) (cq : Nat) (Ac : Option Addr) (cc : Nat) (p : Pln) : Prop where
  q : Rd EInt w Aq p.quo
  c : Rd ECon w Ac p.cons
  qm : p.quo.length ≤ 1000000
  cm : p.cons.length ≤ 1000000
  qc : p.quo.length ≤ cq
  cc : p.cons.length ≤ cc
theorem PlnRd.ext {w w' : World} {Aq : Option Addr} {cq : Nat} {Ac : Option Addr} {cc : Nat} {p : Pln} (h : PlnRd w Aq cq Ac cc p) (hb : Ext w w') : PlnRd w' Aq cq Ac cc p :=
  ⟨h.q.ext hb, h.c.ext hb, h.qm, h.cm, h.qc, h.cc⟩

def quoB (q : Int) : Bool := decide (q < 0) || decide (1073741824 < q)
def Pln.chkC (n : Int) : List Con → List Con → Int
  | _, [] => 0
  | pre, c :: l => if c.check = 0 then (if n ≤ c.src ∨ n ≤ c.dst then 2 else if pre.any (fun d => c.overlapB d) then 14 else chkC n (pre ++ [c]) l) else c.check
def Pln.lim (p : Pln) : Bool := decide (p.quo.length < 1) || (decide (16 < p.quo.length) || decide (64 < p.cons.length))
def Pln.chk (p : Pln) : Int := if p.lim then 4 else if p.quo.any quoB then 2 else Pln.chkC p.quo.length [] p.cons

theorem Pln.chkC_step {n : Int} {l : List Con} {k : Nat} {c : Con} (h : k < l.length) (hc : l[k] = c) :
    Pln.chkC n (l.take k) (l.drop k) = if c.check = 0 then (if n ≤ c.src ∨ n ≤ c.dst then 2 else if (l.take k).any (fun d => c.overlapB d) then 14 else Pln.chkC n (l.take (k + 1)) (l.drop (k + 1))) else c.check := by
  rw [List.drop_eq_getElem_cons h, hc, take_snoc h hc]
  rfl
theorem overlap_comm (a b : Con) : a.overlapB b = b.overlapB a := by
  rw [Bool.eq_iff_iff]
  simp only [Con.overlapB, Bool.and_eq_true, decide_eq_true_eq]
  constructor
  · rintro ⟨⟨⟨⟨h1, h2⟩, h3⟩, h4⟩, h5⟩
    exact ⟨⟨⟨⟨h2, h1⟩, h3.symm⟩, h4.symm⟩, by omega⟩
  · rintro ⟨⟨⟨⟨h1, h2⟩, h3⟩, h4⟩, h5⟩
    exact ⟨⟨⟨⟨h2, h1⟩, h3.symm⟩, h4.symm⟩, by omega⟩

theorem Pln.chkC_mem {n : Int} : ∀ {pre l : List Con}, Pln.chkC n pre l = 0 → ∀ c ∈ l, c.Ok ∧ c.src < n ∧ c.dst < n
  | _, [], _, c, hc => by simp at hc
  | pre, x :: l, h, c, hc => by
    simp only [Pln.chkC] at h
    split at h
    · rename_i h0
      split at h
      · cases h
      · rename_i h1
        split at h
        · cases h
        · rcases List.mem_cons.1 hc with rfl | hc
          · exact ⟨(Con.check_iff c).1 h0, by omega, by omega⟩
          · exact Pln.chkC_mem h c hc
    · rename_i h0; exact absurd h h0
structure Pln.Ok (p : Pln) : Prop where
  n1 : 1 ≤ p.quo.length
  n16 : p.quo.length ≤ 16
  m64 : p.cons.length ≤ 64
  con : ∀ c ∈ p.cons, c.Ok ∧ c.src < p.quo.length ∧ c.dst < p.quo.length
theorem Pln.ok_of {p : Pln} (h : p.chk = 0) : p.Ok := by
  unfold Pln.chk at h
  split at h
  · cases h
  · rename_i h0
    simp only [Pln.lim, Bool.or_eq_true, decide_eq_true_eq] at h0
    split at h
    · cases h
    · exact ⟨by omega, by omega, by omega, Pln.chkC_mem h⟩

end Go.Proofs.YtemkpimngbbpkaaGreat

/- Requests and hops as plain data. -/
namespace Go.Proofs.YtemkpimngbbpkaaGreat
set_option linter.unusedVariables false
set_option linter.unusedSimpArgs false
set_option linter.unusedVariables false
open Go.RowKit

structure Req where
  src : Int
  dst : Int
  size : Int
  ready : Int
  dead : Int
  prio : Int
  cust : Bool
def Req.cells (q : Req) : Array Value := #[.int .i64 q.src, .int .i64 q.dst, .int .i64 q.size, .int .i64 q.ready, .int .i64 q.dead, .int .i64 q.prio, .bool q.cust]
def Req.val (q : Req) : Value := .agg #[.int .i64 q.src, .int .i64 q.dst, .int .i64 q.size, .int .i64 q.ready, .int .i64 q.dead, .int .i64 q.prio, .bool q.cust]
def Req.okB (q : Req) (n : Nat) : Bool :=
  decide (0 ≤ q.src ∧ q.src < n ∧ 0 ≤ q.dst ∧ q.dst < n ∧ q.src ≠ q.dst ∧ 1 ≤ q.size ∧ q.size ≤ 65536 ∧ 0 ≤ q.ready ∧ q.ready ≤ q.dead ∧ q.dead ≤ 1099511627776 ∧ 0 ≤ q.prio ∧ q.prio ≤ 2)

structure Hp where
  con : Int
  beg : Int
  en : Int
  arr : Int
def Hp.cells (h : Hp) : List Value := [.int .i64 h.con, .int .i64 h.beg, .int .i64 h.en, .int .i64 h.arr]
def Hp.val (h : Hp) : Value := .agg #[.int .i64 h.con, .int .i64 h.beg, .int .i64 h.en, .int .i64 h.arr]
def EHp : Elt Hp := ⟨Hp.cells, 4, fun _ => rfl, by omega, fun x u hu => by simp [Hp.cells] at hu; rcases hu with h | h | h | h <;> subst h <;> rfl⟩
theorem Rd.hp {w : World} {A : Option Addr} {l : List Hp} (h : Rd EHp w A l) {k : Nat} (hk : k < l.length) : ∃ b o, A = some ⟨b, o, none⟩ ∧ b < w.heap.size ∧
    w.cell? ⟨b, o + k * 4, none⟩ = some (.int .i64 l[k].con) ∧ w.cell? ⟨b, o + k * 4 + 1, none⟩ = some (.int .i64 l[k].beg) ∧ w.cell? ⟨b, o + k * 4 + 2, none⟩ = some (.int .i64 l[k].en) ∧ w.cell? ⟨b, o + k * 4 + 3, none⟩ = some (.int .i64 l[k].arr) := by
  obtain ⟨b, o, rfl, hb, hc⟩ := h.at hk
  exact ⟨b, o, rfl, hb, hc 0 _ rfl, hc 1 _ rfl, hc 2 _ rfl, hc 3 _ rfl⟩
end Go.Proofs.YtemkpimngbbpkaaGreat

/- Layer 25 (latest): the latest times as plain data, and the plain laws. -/
namespace Go.Proofs.YtemkpimngbbpkaaGreat
set_option linter.unusedVariables false
set_option linter.unusedSimpArgs false
set_option linter.unusedVariables false
open Go.RowKit

end Go.Proofs.YtemkpimngbbpkaaGreat

/- Layer 24 (journey): the earliest arrivals as plain data, and the plain laws. -/
namespace Go.Proofs.YtemkpimngbbpkaaGreat
set_option linter.unusedVariables false
set_option linter.unusedSimpArgs false
set_option linter.unusedVariables false
open Go.RowKit

def earr (c : Con) (t n : Int) : Int := if c.fitsB (c.beg t) n then c.beg t + c.dur n + c.rng else -1
section
variable {N : Nat} {cons : List Con} {n src t0 : Int}
def rank (m : List Int) (v : Int) : Nat := m.countP fun x => decide (0 ≤ x ∧ x < v)
theorem rank_lt : ∀ {m : List Int} {u v : Int}, u ∈ m → 0 ≤ u → u < v → rank m u < rank m v
  | [], _, _, h, _, _ => by simp at h
  | x :: m, u, v, h, h0, h1 => by
    have le : ∀ l : List Int, rank l u ≤ rank l v := fun l => by
      unfold rank
      apply List.countP_mono_left
      intro x _ hx
      simp only [decide_eq_true_eq] at hx ⊢
      omega
    unfold rank at le ⊢
    rw [List.countP_cons, List.countP_cons]
    rcases List.mem_cons.1 h with rfl | h
    · have := le m
      rw [if_neg (by simp), if_pos (by simp; omega)]
      omega
    · have := rank_lt h h0 h1
      unfold rank at this
      have hx : (if decide (0 ≤ x ∧ x < u) = true then 1 else 0) ≤ (if decide (0 ≤ x ∧ x < v) = true then 1 else 0) := by
        by_cases h2 : 0 ≤ x ∧ x < u
        · rw [if_pos (by simpa using h2), if_pos (by simp; omega)]; omega
        · rw [if_neg (by simpa using h2)]; omega
      omega
theorem rank_bd {m : List Int} {v : Int} (h : v ∈ m) : rank m v < m.length := by
  unfold rank
  have h1 : m.countP (fun x => decide (0 ≤ x ∧ x < v)) ≤ m.length := List.countP_le_length
  apply Nat.lt_of_le_of_ne h1
  intro e
  have := List.countP_eq_length.1 e v h
  simp at this
end

def gb (l : List Bool) (i : Int) : Bool := l.getD i.toNat false
section
variable {N : Nat} {cons : List Con} {n src t0 : Int} {m : List Int} {lf : List Bool} {cur x : Int} {D : Con → Prop}
end
end Go.Proofs.YtemkpimngbbpkaaGreat

/- Layer 24 (journey): journeys as plain data. -/
namespace Go.Proofs.YtemkpimngbbpkaaGreat
set_option linter.unusedVariables false
set_option linter.unusedSimpArgs false
set_option linter.unusedVariables false
open Go.RowKit

def cand (f : List Int) (n node time : Int) (c : Con) : Bool := decide (c.dst = node ∧ 0 ≤ gi f c.src ∧ earr c (gi f c.src) n ≠ -1 ∧ earr c (gi f c.src) n = time)
section
variable {N : Nat} {cons : List Con} {n src t0 : Int} {m : List Int}
end

section
variable {N : Nat} {cons : List Con} {n src t0 : Int}
end

def gc (cons : List Con) (i : Int) : Con := cons.getD i.toNat ⟨0, 0, 0, 0, 0, 0, 0⟩
theorem gc_get {cons : List Con} {i : Int} (h : i.toNat < cons.length) : gc cons i = cons[i.toNat] := by simp [gc, h]
end Go.Proofs.YtemkpimngbbpkaaGreat

/- Layers 24 and 25 beside each other: earliest arrivals and latest times are each other's mirror. -/
namespace Go.Proofs.YtemkpimngbbpkaaGreat
set_option linter.unusedVariables false
set_option linter.unusedSimpArgs false
set_option linter.unusedVariables false
open Go.RowKit

section
variable {p : Pln} {src dst n : Int}
end

section
variable {p : Pln} {src dst n : Int}
end

end Go.Proofs.YtemkpimngbbpkaaGreat

/- Layer 26 (reach): profiles as plain data. -/
namespace Go.Proofs.YtemkpimngbbpkaaGreat
set_option linter.unusedVariables false
set_option linter.unusedSimpArgs false
set_option linter.unusedVariables false
open Go.RowKit

section
variable {p : Pln} {src dst n : Int}
end

end Go.Proofs.YtemkpimngbbpkaaGreat

/- Layer 24 (journey): the plain law of JourneyMonotone. -/
namespace Go.Proofs.YtemkpimngbbpkaaGreat
set_option linter.unusedVariables false
set_option linter.unusedSimpArgs false
set_option linter.unusedVariables false
open Go.RowKit

end Go.Proofs.YtemkpimngbbpkaaGreat

namespace Go.Proofs.YtemkpimngbbpkaaGreat
set_option linter.unusedVariables false
set_option linter.unusedSimpArgs false
set_option linter.unusedVariables false
open Go.RowKit

structure Chg where
  org : Int
  cnt : Int
  stp : Int
  kind : Int
  con : Con
def Chg.cells (x : Chg) : List Value := [.int .i64 x.org, .int .i64 x.cnt, .int .i64 x.stp, .int .i64 x.kind, .int .i64 x.con.src, .int .i64 x.con.dst, .int .i64 x.con.st, .int .i64 x.con.en, .int .i64 x.con.rate, .int .i64 x.con.rng, .int .i64 x.con.loss]
def EChg : Elt Chg := ⟨Chg.cells, 11, fun _ => rfl, by omega, fun x u hu => by simp [Chg.cells] at hu; rcases hu with h | h | h | h | h | h | h | h | h | h | h <;> subst h <;> rfl⟩

def inN (n i : Int) : Bool := decide (0 ≤ i ∧ i < n)
def Con.bare (c : Con) : Con := ⟨c.src, c.dst, c.st, 0, 0, 0, 0⟩
def Con.isBare (c : Con) : Bool := decide (c.en = 0) && (decide (c.rate = 0) && (decide (c.rng = 0) && decide (c.loss = 0)))
def Chg.cok (n : Int) (x : Chg) : Bool :=
  inN n x.con.src && (inN n x.con.dst && (if x.kind = 1 then decide (x.con.check = 0) else if x.kind = 2 then decide (x.con.src ≠ x.con.dst) && (decide (0 ≤ x.con.st ∧ x.con.st ≤ 1099511627776) && x.con.isBare) else false))
def Chg.ok (n : Int) (x : Chg) : Bool := decide (0 ≤ x.org ∧ x.org < n ∧ 1 ≤ x.cnt ∧ 1 ≤ x.stp ∧ x.stp ≤ 1099511627776) && x.cok n
def folE (b : Option Chg) (x : Chg) : Int :=
  match b with
  | none => if x.cnt = 1 then 0 else 25
  | some y => if x.org < y.org ∨ (y.org = x.org ∧ x.cnt ≤ y.cnt) then 9 else if y.org = x.org then (if x.cnt ≠ y.cnt + 1 then 25 else if x.stp ≤ y.stp then 9 else 0) else (if x.cnt ≠ 1 then 25 else 0)
def chkF (n : Int) : Option Chg → List Chg → Int
  | _, [] => 0
  | b, x :: r => if x.ok n = false then 2 else if folE b x ≠ 0 then folE b x else chkF n (some x) r
def hChk (n : Int) (l : List Chg) : Int := if n < 1 ∨ 16 < n then 2 else if 1000 < l.length then 4 else chkF n none l

def Chg.lt (x y : Chg) : Prop := x.org < y.org ∨ (x.org = y.org ∧ x.cnt < y.cnt)
theorem Chg.lt_irrefl (x : Chg) : ¬ x.lt x := by unfold Chg.lt; omega
theorem Chg.lt_trans {x y z : Chg} (h : x.lt y) (k : y.lt z) : x.lt z := by unfold Chg.lt at *; omega
theorem strict_eq : ∀ {l m : List Chg}, l.Pairwise Chg.lt → m.Pairwise Chg.lt → (∀ x, x ∈ l ↔ x ∈ m) → l = m
  | [], [], _, _, _ => rfl
  | [], y :: m, _, _, h => absurd ((h y).2 (by simp)) (by simp)
  | x :: l, [], _, _, h => absurd ((h x).1 (by simp)) (by simp)
  | x :: l, y :: m, hl, hm, h => by
    obtain ⟨hl1, hl2⟩ := List.pairwise_cons.1 hl
    obtain ⟨hm1, hm2⟩ := List.pairwise_cons.1 hm
    have e : x = y := by
      rcases List.mem_cons.1 ((h x).1 (by simp)) with h1 | h1
      · exact h1
      · rcases List.mem_cons.1 ((h y).2 (by simp)) with h2 | h2
        · exact h2.symm
        · exact absurd (Chg.lt_trans (hl1 y h2) (hm1 x h1)) (Chg.lt_irrefl x)
    subst e
    congr 1
    refine strict_eq hl2 hm2 (fun z => ⟨fun hz => ?_, fun hz => ?_⟩)
    · rcases List.mem_cons.1 ((h z).1 (by simp [hz])) with h1 | h1
      · subst h1; exact absurd (hl1 z hz) (Chg.lt_irrefl z)
      · exact h1
    · rcases List.mem_cons.1 ((h z).2 (by simp [hz])) with h1 | h1
      · subst h1; exact absurd (hm1 z hz) (Chg.lt_irrefl z)
      · exact h1

structure LogOk (L : Nat → List Chg) : Prop where
  org : ∀ o (i : Nat) (h : i < (L o).length), (L o)[i].org = o
  cnt : ∀ o (i : Nat) (h : i < (L o).length), (L o)[i].cnt = i + 1
  ok : ∀ o, o < 3 → ∀ x ∈ L o, x.ok 4 = true
  asc : ∀ o (i : Nat) (h : i + 1 < (L o).length), (L o)[i].stp < (L o)[i + 1].stp
def hist (L : Nat → List Chg) (k : Nat → Nat) : List Chg := (L 0).take (k 0) ++ ((L 1).take (k 1) ++ (L 2).take (k 2))
theorem hist_mem {L : Nat → List Chg} {k : Nat → Nat} {x : Chg} : x ∈ hist L k ↔ ∃ o, o < 3 ∧ x ∈ (L o).take (k o) := by
  simp only [hist, List.mem_append]
  constructor
  · rintro (h | h | h)
    · exact ⟨0, by omega, h⟩
    · exact ⟨1, by omega, h⟩
    · exact ⟨2, by omega, h⟩
  · rintro ⟨o, ho, h⟩
    match o, ho with
    | 0, _ => exact .inl h
    | 1, _ => exact .inr (.inl h)
    | 2, _ => exact .inr (.inr h)
theorem take_mem {α : Type} {l : List α} {k : Nat} {x : α} : x ∈ l.take k ↔ ∃ i, ∃ h : i < l.length, i < k ∧ l[i] = x := by
  rw [List.mem_iff_getElem]
  constructor
  · rintro ⟨i, hi, e⟩
    rw [List.length_take] at hi
    rw [List.getElem_take] at e
    exact ⟨i, by omega, by omega, e⟩
  · rintro ⟨i, h, hk, e⟩
    exact ⟨i, by rw [List.length_take]; omega, by rw [List.getElem_take]; exact e⟩
theorem LogOk.key {L : Nat → List Chg} (h : LogOk L) {o p : Nat} {x y : Chg} (hx : x ∈ L o) (hy : y ∈ L p) (e1 : x.org = y.org) (e2 : x.cnt = y.cnt) : x = y := by
  obtain ⟨i, hi, rfl⟩ := List.mem_iff_getElem.1 hx
  obtain ⟨j, hj, rfl⟩ := List.mem_iff_getElem.1 hy
  rw [h.org, h.org] at e1
  rw [h.cnt, h.cnt] at e2
  have e3 : o = p := by omega
  subst e3
  have e4 : i = j := by omega
  subst e4
  rfl
theorem pw_take {L : Nat → List Chg} (h : LogOk L) (o k : Nat) : ((L o).take k).Pairwise Chg.lt := by
  refine List.Pairwise.sublist (List.take_sublist _ _) ?_
  rw [List.pairwise_iff_getElem]
  intro i j hi hj hij
  unfold Chg.lt
  rw [h.org, h.org, h.cnt, h.cnt]
  omega
theorem hist_pw {L : Nat → List Chg} (h : LogOk L) (k : Nat → Nat) : (hist L k).Pairwise Chg.lt := by
  have lo : ∀ o x, x ∈ (L o).take (k o) → x.org = o := fun o x hx => by
    obtain ⟨i, hi, _, rfl⟩ := take_mem.1 hx
    exact h.org o i hi
  unfold hist
  rw [List.pairwise_append, List.pairwise_append]
  refine ⟨pw_take h _ _, ⟨pw_take h _ _, pw_take h _ _, ?_⟩, ?_⟩
  · intro a ha b hb
    have := lo _ _ ha
    have := lo _ _ hb
    unfold Chg.lt; omega
  · intro a ha b hb
    have := lo _ _ ha
    rcases List.mem_append.1 hb with hb | hb
    · have := lo _ _ hb
      unfold Chg.lt; omega
    · have := lo _ _ hb
      unfold Chg.lt; omega

theorem chkF_app {n : Int} : ∀ {l m : List Chg} {b : Option Chg}, chkF n b l = 0 → chkF n (match l.getLast? with | some y => some y | none => b) m = 0 → chkF n b (l ++ m) = 0
  | [], m, b, _, h => by simpa using h
  | x :: l, m, b, h1, h2 => by
    have h1' := h1
    unfold chkF at h1'
    split at h1'
    · omega
    · rename_i a1
      split at h1'
      · rename_i a2; exact absurd h1' a2
      · rename_i a2
        have ih := chkF_app (m := m) h1' (by
          cases hl : l.getLast? with
          | none =>
            have : l = [] := by simpa using hl
            subst this
            simpa using h2
          | some y => 
            rw [List.getLast?_cons, hl] at h2
            simpa using h2)
        rw [List.cons_append]
        unfold chkF
        rw [if_neg a1, if_neg a2]
        exact ih
theorem chkF_take {L : Nat → List Chg} (h : LogOk L) {o : Nat} (ho : o < 3) : ∀ (k i : Nat) (b : Option Chg), (∀ y, b = some y → (i = 0 ∧ y.org < o) ∨ (∃ hi : i - 1 < (L o).length, 1 ≤ i ∧ y = (L o)[i - 1])) → (b = none → i = 0) → chkF 4 b (((L o).drop i).take k) = 0
  | 0, i, b, _, _ => by simp [chkF]
  | k + 1, i, b, hb, hn => by
    by_cases hi : i < (L o).length
    · rw [List.drop_eq_getElem_cons hi, List.take_succ_cons]
      unfold chkF
      rw [if_neg (by rw [h.ok o ho _ (List.getElem_mem hi)]; simp)]
      have hf : folE b (L o)[i] = 0 := by
        cases hbb : b with
        | none =>
          have := hn hbb
          unfold folE
          dsimp only
          rw [if_pos (by rw [h.cnt]; omega)]
        | some y =>
          unfold folE
          dsimp only
          rcases hb y hbb with ⟨h1, h2⟩ | ⟨h1, h2, h3⟩
          · rw [if_neg (by rw [h.org]; omega), if_neg (by rw [h.org]; omega), if_neg (by rw [h.cnt]; omega)]
          · have a1 := h.asc o (i - 1) (by omega)
            have e : i - 1 + 1 = i := by omega
            simp only [e] at a1
            subst h3
            rw [if_neg (by rw [h.org, h.org, h.cnt, h.cnt]; omega), if_pos (by rw [h.org, h.org]), if_neg (by rw [h.cnt, h.cnt]; omega), if_neg (by omega)]
      rw [if_neg (by rw [hf]; simp)]
      exact chkF_take h ho k (i + 1) _ (fun y hy => by
        injection hy with hy
        exact .inr ⟨by omega, by omega, by subst hy; rfl⟩) (fun h => by cases h)
    · rw [List.drop_eq_nil_of_le (by omega)]
      simp [chkF]
theorem last_org {L : Nat → List Chg} (h : LogOk L) {o k : Nat} {y : Chg} (hy : ((L o).take k).getLast? = some y) : y.org = o := by
  have := List.mem_of_getLast? hy
  obtain ⟨i, hi, _, rfl⟩ := take_mem.1 this
  exact h.org o i hi
theorem hist_chk {L : Nat → List Chg} (h : LogOk L) (k : Nat → Nat) (hl : (hist L k).length ≤ 1000) : hChk 4 (hist L k) = 0 := by
  unfold hChk
  rw [if_neg (by omega), if_neg (by omega)]
  have t : ∀ o : Nat, o < 3 → ∀ b : Option Chg, (∀ y, b = some y → y.org < (o : Int)) → chkF 4 b ((L o).take (k o)) = 0 := fun o ho b hb => by
    have := chkF_take h ho (k o) 0 b (fun y hy => .inl ⟨rfl, hb y hy⟩) (fun _ => rfl)
    simpa using this
  unfold hist
  refine chkF_app (t 0 (by omega) none (fun y hy => by cases hy)) ?_
  cases h0 : ((L 0).take (k 0)).getLast? with
  | none =>
    refine chkF_app (t 1 (by omega) none (fun y hy => by cases hy)) ?_
    cases h1 : ((L 1).take (k 1)).getLast? with
    | none => exact t 2 (by omega) none (fun y hy => by cases hy)
    | some y => exact t 2 (by omega) (some y) (fun z hz => by injection hz with hz; subst hz; have := last_org h h1; omega)
  | some y =>
    have e0 := last_org h h0
    refine chkF_app (t 1 (by omega) (some y) (fun z hz => by injection hz with hz; subst hz; omega)) ?_
    cases h1 : ((L 1).take (k 1)).getLast? with
    | none => exact t 2 (by omega) (some y) (fun z hz => by injection hz with hz; subst hz; omega)
    | some y' => exact t 2 (by omega) (some y') (fun z hz => by injection hz with hz; subst hz; have := last_org h h1; omega)


def conEq (a b : Con) : Bool := decide (a.src = b.src) && (decide (a.dst = b.dst) && (decide (a.st = b.st) && (decide (a.en = b.en) && (decide (a.rate = b.rate) && (decide (a.rng = b.rng) && decide (a.loss = b.loss))))))
theorem conEq_iff {a b : Con} : conEq a b = true ↔ a = b := by
  cases a; cases b
  simp [conEq]
def chgEq (x y : Chg) : Bool := decide (x.org = y.org) && (decide (x.cnt = y.cnt) && (decide (x.stp = y.stp) && (decide (x.kind = y.kind) && conEq x.con y.con)))
theorem chgEq_iff {x y : Chg} : chgEq x y = true ↔ x = y := by
  obtain ⟨a, b, c, d, e⟩ := x
  obtain ⟨a', b', c', d', e'⟩ := y
  simp [chgEq, conEq_iff]
def cmpF (y : Chg) : List Chg → List Chg
  | [] => []
  | x :: r => if chgEq x y then cmpF x r else x :: cmpF x r
def cmpct : List Chg → List Chg
  | [] => []
  | x :: r => x :: cmpF x r
def Chg.le (x y : Chg) : Prop := ¬ y.lt x
theorem cmpF_mem1 : ∀ {r : List Chg} {y z : Chg}, z ∈ cmpF y r → z ∈ r
  | [], _, _, h => by simp [cmpF] at h
  | x :: r, y, z, h => by
    unfold cmpF at h
    split at h
    · exact List.mem_cons_of_mem _ (cmpF_mem1 h)
    · rcases List.mem_cons.1 h with rfl | h
      · exact List.mem_cons_self
      · exact List.mem_cons_of_mem _ (cmpF_mem1 h)
theorem cmpF_mem2 : ∀ {r : List Chg} {y z : Chg}, z ∈ r → z = y ∨ z ∈ cmpF y r
  | [], _, _, h => by simp at h
  | x :: r, y, z, h => by
    unfold cmpF
    split
    · rename_i e
      have e := chgEq_iff.1 e
      rcases List.mem_cons.1 h with rfl | h
      · exact .inl e
      · rcases cmpF_mem2 (y := x) h with h | h
        · exact .inl (h.trans e)
        · exact .inr h
    · rcases List.mem_cons.1 h with rfl | h
      · exact .inr List.mem_cons_self
      · rcases cmpF_mem2 (y := x) h with h | h
        · subst h; exact .inr List.mem_cons_self
        · exact .inr (List.mem_cons_of_mem _ h)
theorem cmpF_pw : ∀ {r : List Chg} {y : Chg}, (y :: r).Pairwise Chg.le → (∀ a b, a ∈ y :: r → b ∈ y :: r → a.org = b.org → a.cnt = b.cnt → a = b) → (∀ z ∈ cmpF y r, y.lt z) ∧ (cmpF y r).Pairwise Chg.lt
  | [], _, _, _ => by simp [cmpF]
  | x :: r, y, h, hk => by
    obtain ⟨h1, h2⟩ := List.pairwise_cons.1 h
    have hk2 : ∀ a b, a ∈ x :: r → b ∈ x :: r → a.org = b.org → a.cnt = b.cnt → a = b := fun a b ha hb => hk a b (List.mem_cons_of_mem _ ha) (List.mem_cons_of_mem _ hb)
    have ih := cmpF_pw h2 hk2
    unfold cmpF
    split
    · rename_i e
      have e := chgEq_iff.1 e
      subst e
      exact ih
    · rename_i e
      have hyx : y.lt x := by
        have a1 := h1 x (by simp)
        have a2 : ¬ (x.org = y.org ∧ x.cnt = y.cnt) := fun a3 => e (chgEq_iff.2 (hk x y (by simp) (by simp) a3.1 a3.2))
        unfold Chg.le Chg.lt at *
        omega
      refine ⟨fun z hz => ?_, List.pairwise_cons.2 ih⟩
      rcases List.mem_cons.1 hz with rfl | hz
      · exact hyx
      · exact Chg.lt_trans hyx (ih.1 z hz)
theorem cmpct_pw {l : List Chg} (h : l.Pairwise Chg.le) (hk : ∀ a b, a ∈ l → b ∈ l → a.org = b.org → a.cnt = b.cnt → a = b) : (cmpct l).Pairwise Chg.lt := by
  cases l with
  | nil => simp [cmpct]
  | cons x r => exact List.pairwise_cons.2 (cmpF_pw h hk)
theorem cmpct_mem {l : List Chg} {z : Chg} : z ∈ cmpct l ↔ z ∈ l := by
  cases l with
  | nil => simp [cmpct]
  | cons x r =>
    unfold cmpct
    constructor
    · intro h
      rcases List.mem_cons.1 h with rfl | h
      · simp
      · exact List.mem_cons_of_mem _ (cmpF_mem1 h)
    · intro h
      rcases List.mem_cons.1 h with rfl | h
      · simp
      · rcases cmpF_mem2 (y := x) h with h | h
        · subst h; simp
        · exact List.mem_cons_of_mem _ h
theorem cmpct_eq {l u : List Chg} (h : l.Pairwise Chg.le) (hk : ∀ a b, a ∈ l → b ∈ l → a.org = b.org → a.cnt = b.cnt → a = b) (hu : u.Pairwise Chg.lt) (hm : ∀ x, x ∈ l ↔ x ∈ u) : cmpct l = u :=
  strict_eq (cmpct_pw h hk) hu (fun x => cmpct_mem.trans (hm x))

theorem chkF_at {n : Int} : ∀ {l : List Chg} {b : Option Chg}, chkF n b l = 0 → ∀ (i : Nat) (h : i < l.length), l[i].ok n = true ∧ folE (if i = 0 then b else l[i - 1]?) l[i] = 0
  | [], _, _, i, h => by simp at h
  | x :: r, b, h0, i, h => by
    unfold chkF at h0
    split at h0
    · omega
    · rename_i a1
      split at h0
      · rename_i a2; exact absurd h0 a2
      · rename_i a2
        have a2 : folE b x = 0 := by simpa using a2
        cases i with
        | zero => exact ⟨by simpa using a1, by simpa using a2⟩
        | succ i =>
          have ih := chkF_at h0 i (by simpa using h)
          refine ⟨ih.1, ?_⟩
          rw [if_neg (by omega)]
          have e2 := ih.2
          cases i with
          | zero => simpa using e2
          | succ i => simpa using e2

def kmax (k k' : Nat → Nat) : Nat → Nat := fun o => max (k o) (k' o)
theorem hist_max {L : Nat → List Chg} {k k' : Nat → Nat} {l : List Chg} (hl1 : ∀ x ∈ l, x ∈ hist L k') (hl2 : ∀ x ∈ hist L k', x ∈ hist L k ∨ x ∈ l) (x : Chg) : x ∈ hist L k ++ l ↔ x ∈ hist L (kmax k k') := by
  rw [List.mem_append]
  constructor
  · rintro (h | h)
    · obtain ⟨o, ho, h⟩ := hist_mem.1 h
      obtain ⟨i, hi, hk, e⟩ := take_mem.1 h
      exact hist_mem.2 ⟨o, ho, take_mem.2 ⟨i, hi, by unfold kmax; omega, e⟩⟩
    · obtain ⟨o, ho, h⟩ := hist_mem.1 (hl1 x h)
      obtain ⟨i, hi, hk, e⟩ := take_mem.1 h
      exact hist_mem.2 ⟨o, ho, take_mem.2 ⟨i, hi, by unfold kmax; omega, e⟩⟩
  · intro h
    obtain ⟨o, ho, h⟩ := hist_mem.1 h
    obtain ⟨i, hi, hk, e⟩ := take_mem.1 h
    unfold kmax at hk
    rcases Nat.lt_or_ge i (k o) with h1 | h1
    · exact .inl (hist_mem.2 ⟨o, ho, take_mem.2 ⟨i, hi, h1, e⟩⟩)
    · exact hl2 x (hist_mem.2 ⟨o, ho, take_mem.2 ⟨i, hi, by omega, e⟩⟩)
theorem hist_key {L : Nat → List Chg} (h : LogOk L) {k : Nat → Nat} : ∀ a b, a ∈ hist L k → b ∈ hist L k → a.org = b.org → a.cnt = b.cnt → a = b := by
  intro a b ha hb
  obtain ⟨o, _, ha⟩ := hist_mem.1 ha
  obtain ⟨p, _, hb⟩ := hist_mem.1 hb
  exact h.key (List.mem_of_mem_take ha) (List.mem_of_mem_take hb)

end Go.Proofs.YtemkpimngbbpkaaGreat

namespace Go.Proofs.YtemkpimngbbpkaaGreat
set_option linter.unusedVariables false
set_option linter.unusedSimpArgs false
set_option linter.unusedVariables false
open Go.RowKit Go.Lib

def byC (b : UInt8) : Value := .int .u8 (b.toNat : Int)
theorem eb_all (l : Bts) : EB.all l = l.map byC := by
  induction l with
  | nil => rfl
  | cons x l ih => simp only [Elt.all, List.flatMap_cons, List.map_cons] at ih ⊢; rw [ih]; rfl
theorem strCells_mk (l : Bts) : strCells ⟨l.toArray⟩ = l.map byC := by simp [strCells, byC]
theorem bsize_mk (l : Bts) : (⟨l.toArray⟩ : ByteArray).size = l.length := by simp [ByteArray.size]

def OwnsB (w : World) (base : Nat) (e : TypeId) (v : Value) (l : Bts) : Prop :=
  (v = .slice none 0 0 ∧ l = []) ∨
  ∃ g cap cur fz, v = .slice (some ⟨g, 0, none⟩) l.length cap ∧ base ≤ g ∧ w.heap[g]? = some (.cells cur e fz) ∧ (fz = (0, 0) ∨ fz = (cur.size, cur.size + 1)) ∧ l.length ≤ cap ∧ cap ≤ maxLen ∧ cur.size = cap ∧ cur.toList.take l.length = l.map byC
theorem OwnsB.of {w : World} {base : Nat} {e : TypeId} {v : Value} {l : Bts} (h : Owns EB w base e v l) : OwnsB w base e v l := by
  have h1 := h
  unfold Owns at h1
  rw [eb_all] at h1
  rcases h1.2 with ⟨rfl, h2⟩ | ⟨g, cap, cur, rfl, h2, h3, h4, h5, h6, h7⟩
  · exact .inl ⟨rfl, List.eq_nil_of_length_eq_zero h2⟩
  · have e1 : EB.size = 1 := rfl
    rw [e1, Nat.mul_one] at h6 h7
    exact .inr ⟨g, cap, cur, (0, 0), rfl, h2, h3, .inl rfl, h4, h5, h6, h7⟩
theorem OwnsB.ext {w w' : World} {base : Nat} {e : TypeId} {v : Value} {l : Bts} (h : OwnsB w base e v l) (hb : Ext w w') : OwnsB w' base e v l := by
  rcases h with h | ⟨g, cap, cur, fz, rfl, h2, h3, h4⟩
  · exact .inl h
  · exact .inr ⟨g, cap, cur, fz, rfl, h2, (hb.block g (Array.getElem?_eq_some_iff.1 h3).1).trans h3, h4⟩
theorem OwnsB.block {w : World} {base : Nat} {e : TypeId} {v : Value} {l : Bts} (h : OwnsB w base e v l) {g : Nat} (hg : v.ownBlock = some g) : base ≤ g ∧ g < w.heap.size := by
  rcases h with ⟨rfl, _⟩ | ⟨g', cap, cur, fz, rfl, h2, h3, _⟩
  · simp [Value.ownBlock] at hg
  · simp [Value.ownBlock] at hg
    subst hg
    exact ⟨h2, (Array.getElem?_eq_some_iff.1 h3).1⟩
theorem OwnsB.form {w : World} {base : Nat} {e : TypeId} {v : Value} {l : Bts} (h : OwnsB w base e v l) : ∃ A c, v = .slice A l.length c ∧ Rd EB w A l := by
  rcases h with ⟨rfl, rfl⟩ | ⟨g, cap, cur, fz, rfl, h2, h3, h4, h5, h6, h7, h8⟩
  · exact ⟨none, 0, rfl, Rd.nil⟩
  · refine ⟨_, _, rfl, ?_⟩
    unfold Rd
    rw [eb_all]
    refine ⟨by simp [EB], fun _ => ⟨_, rfl, (Array.getElem?_eq_some_iff.1 h3).1, fun j u hu => ?_⟩⟩
    rw [Addr.add_lit, Nat.zero_add, cell_of_row w g j cur e fz h3]
    rw [← h8, List.getElem?_take] at hu
    split at hu
    · simpa using hu
    · cases hu

theorem run_storeCells_atB (P : Program) (g o : Nat) (t : TypeId) (fz : Nat × Nat) : ∀ (vs : List Value) (i : Nat) (cur : Array Value) (w : World), w.heap[g]? = some (.cells cur t fz) → (fz = (0, 0) ∨ fz = (cur.size, cur.size + 1)) → o + i + vs.length ≤ cur.size → (∀ v ∈ vs, v.oneCell' = true) →
    (storeCells ⟨g, o, none⟩ vs i).run P w = .ok () (w.setRow g (cur.toList.take (o + i) ++ vs ++ cur.toList.drop (o + i + vs.length)).toArray)
  | [], i, cur, w, hg, _, _, _ => by
    simp only [storeCells, List.append_nil, List.length_nil, Nat.add_zero, List.take_append_drop, Array.toArray_toList]
    rw [setRow_self w g cur t fz hg]
    rfl
  | v :: rest, i, cur, w, hg, hfz, hl, h1 => by
    have hi : o + i < cur.size := by simp at hl; omega
    have hadd : (⟨g, o, none⟩ : Addr).add i = ⟨g, o + i, none⟩ := by unfold Addr.add; split <;> simp_all
    have hcell : w.cell? ⟨g, o + i, none⟩ = some cur[o + i] := by simp [World.cell?, hg, hi]
    have hfro : w.frozen? ⟨g, o + i, none⟩ = false := by
      rcases hfz with rfl | rfl <;> simp [World.frozen?, hg] <;> omega
    have hst : (store ((⟨g, o, none⟩ : Addr).add i) v).run P w = .ok () (w.setRow g (cur.setIfInBounds (o + i) v)) := by
      rw [hadd, run_store P w _ v _ (h1 v (by simp)), hcell]
      simp [hfro, setCell_eq_setRow w g (o + i) cur t fz v hg]
    have ih := run_storeCells_atB P g o t fz rest (i + 1) (cur.setIfInBounds (o + i) v) (w.setRow g (cur.setIfInBounds (o + i) v)) (setRow_heap w g cur _ t _ hg) (by simpa using hfz) (by simp at hl ⊢; omega) (fun x hx => h1 x (by simp [hx]))
    simp only [storeCells, Sem.run_bind, hst, Result.andThen_ok, ih, setRow_setRow]
    congr 3
    have e := list_seg_step cur.toList (o + i) v rest (by simp at hl ⊢; omega)
    simpa [Array.toList_setIfInBounds, Nat.add_assoc] using e

section
variable {P : Program} (w : World)
theorem run_append_room_stringB (t u ty e : TypeId) (i : TypeInfo) (ht : P.underlying t = some (.slice e)) (hu : P.underlying u = some .string) (hi : P.info? e = some i) (hs1 : i.size = 1)
    (g sLen sCap : Nat) (cur : Array Value) (fz : Nat × Nat) (hg : w.heap[g]? = some (.cells cur e fz)) (hfz : fz = (0, 0) ∨ fz = (cur.size, cur.size + 1)) (s : ByteArray)
    (hroom : sLen + s.size ≤ sCap) (hfit : sLen + s.size ≤ cur.size) :
    (Builtin.append_ #[t, u] ty #[.slice (some ⟨g, 0, none⟩) sLen sCap, .string s]).run P w =
      .ok (.slice (some ⟨g, 0, none⟩) (sLen + s.size) sCap) (w.setRow g (cur.toList.take sLen ++ strCells s ++ cur.toList.drop (sLen + s.size)).toArray) := by
  have hf := run_firstCells_string (P := P) w 1 s
  have hst := run_storeCells_atB P g sLen e fz (strCells s) 0 cur w hg hfz (by simpa [strCells_length] using hfit) (strCells_oneCell s)
  simp only [Nat.add_zero, strCells_length] at hst
  simp [Builtin.append_, run_underlying ht, run_underlying hu, sizeOf, typeInfo, hi, hs1, Builtin.lenOf, hroom, hf, Addr.add_lit, hst]
theorem run_append_stringB (base : Nat) (t u ty e : TypeId) (i : TypeInfo) (ht : P.underlying t = some (.slice e)) (hu : P.underlying u = some .string) (hi : P.info? e = some i) (hz : i.zero = some (.int .u8 0))
    (hsize : i.size = 1) (hby : i.bytes = 1) (v : Value) (l : Bts) (hown : OwnsB w base e v l) (s : Bts)
    (hn : l.length + s.length ≤ 140737488355328) (hbase : base ≤ w.heap.size) :
    ∃ v' w', (Builtin.append_ #[t, u] ty #[v, strV s]).run P w = .ok v' w' ∧ OwnsB w' base e v' (l ++ s) ∧ w.grownBy w' v.ownBlock := by
  have h63 : l.length + s.length ≤ maxLen := by simp only [maxLen]; omega
  have hss : (⟨s.toArray⟩ : ByteArray).size = s.length := bsize_mk s
  have hsc := strCells_mk s
  unfold strV
  rcases hown with ⟨rfl, rfl⟩ | ⟨g, cap, cur, fz, rfl, hbg, hg, hfz, hnc, hcm, hcs, htake⟩
  · obtain ⟨v', w', h1, h2, h3, h4⟩ := run_append_own_string (P := P) w base t u ty e i ht hu hi hz hsize hby (.slice none 0 0) 0 [] (World.ownsRow_nil w base e 1) ⟨s.toArray⟩ (by rw [hss]; simpa using h63) (by rw [hss]; simpa using hn) hbase
    refine ⟨v', w', h1, OwnsB.of ?_, h3⟩
    unfold Owns
    rw [eb_all, List.nil_append, ← hsc]
    rw [hss] at h2
    simpa [EB] using h2
  · by_cases hroom : l.length + s.length ≤ cap
    · have hr := run_append_room_stringB (P := P) w t u ty e i ht hu hi hsize g l.length cap cur fz hg hfz ⟨s.toArray⟩ (by rw [hss]; exact hroom) (by rw [hss]; omega)
      rw [hss, hsc] at hr
      have hlen : (List.take l.length cur.toList ++ List.map byC s ++ List.drop (l.length + s.length) cur.toList).length = cur.size := by
        simp only [List.length_append, List.length_take, List.length_drop, Array.length_toList, List.length_map]
        omega
      refine ⟨_, _, hr, .inr ⟨g, cap, _, fz, by rw [List.length_append], hbg, setRow_heap w g cur _ e _ hg, ?_, by rw [List.length_append]; exact hroom, hcm, by rw [List.size_toArray, hlen]; exact hcs, ?_⟩, ⟨rfl, rfl, rfl, by simp, fun k _ hk => setRow_other w g k _ (fun e => hk (by simp [Value.ownBlock, e]))⟩⟩
      · rw [List.size_toArray, hlen]; exact hfz
      · rw [htake, List.map_append]
        have : (List.map byC l ++ List.map byC s).length = (l ++ s).length := by simp
        rw [← this]
        exact List.take_left
    · have holds : ∀ j u, (l.map byC)[j]? = some u → w.cell? ((⟨g, 0, none⟩ : Addr).add j) = some u := by
        intro j u hu
        rw [Addr.add_lit, Nat.zero_add, cell_of_row w g j cur e fz hg]
        rw [← htake, List.getElem?_take] at hu
        split at hu
        · simpa using hu
        · cases hu
      have hr := run_append_grow_string (P := P) w t u ty e i (.int .u8 0) ht hu hi hz ⟨g, 0, none⟩ l.length cap (l.map byC) (by rw [hsize]; simp) holds ⟨s.toArray⟩ (by rw [hss]; omega) (by rw [hss]; simp only [maxLen] at h63; omega) (by rw [hby, hss]; exact growslice_fits (by omega) (by omega))
      have hge := grownCap_ge w (l.length + s.length) cap e
      have hcm2 : grownCap w (l.length + s.length) cap e ≤ maxLen := grownCap_le_maxLen w (l.length + s.length) cap e h63
      rw [hss, hsc] at hr
      refine ⟨_, _, hr, .inr ⟨w.heap.size, _, _, (0, 0), by rw [List.length_append], hbase, heap_alloc_new w.drew _, .inl rfl, by rw [List.length_append]; exact hge, hcm2, ?_, ?_⟩, ⟨rfl, rfl, rfl, by simp, fun k hk _ => heap_alloc_old w.drew _ hk⟩⟩
      · have hz1 : (Value.int IntKind.u8 0).cells.size = 1 := rfl
        simp only [Array.size_append, List.size_toArray, size_zeroCells, hz1, List.length_map]
        omega
      · simp only [Array.toList_append, List.append_assoc]
        rw [← List.append_assoc, ← List.map_append]
        have : (List.map byC (l ++ s)).length = (l ++ s).length := by simp
        rw [← this]
        exact List.take_left
end

theorem conv_bytes {P : Program} (w : World) (src dst e : TypeId) (s : Bts) {u : TypeDesc} (hs : P.underlying src = some u) (hd : P.underlying dst = some (.slice e)) (he : P.underlying e = some (.int .u8)) (hn : s.length ≤ 140737488355328) :
    ∃ cap w', (convert src dst (strV s)).run P w = .ok (.slice (some ⟨w.heap.size, 0, none⟩) s.length cap) w' ∧ OwnsB w' w.heap.size e (.slice (some ⟨w.heap.size, 0, none⟩) s.length cap) s ∧ Ext w w' ∧ w'.heap.size = w.heap.size + 1 := by
  have h1 := Go.Lib.run_convert_string_bytes (P := P) w src dst e ⟨s.toArray⟩ hs hd he
  have hz : (⟨s.toArray⟩ : ByteArray).size = s.length := bsize_mk s
  rw [hz] at h1
  have h63 : s.length ≤ maxLen := by simp only [maxLen]; omega
  have hge := grownCap_ge w s.length 0 e
  have hcm := grownCap_le_maxLen w s.length 0 e h63
  refine ⟨_, _, h1, .inr ⟨w.heap.size, _, _, _, rfl, Nat.le_refl _, bytesWorld_at_new w e ⟨s.toArray⟩, .inr rfl, hge, hcm, ?_, ?_⟩, ⟨?_, ?_, ?_, ?_, fun k hk => bytesWorld_at_old w e _ k hk⟩, bytesWorld_size w e _⟩
  · simp only [bytesCells, hz, Array.size_append, Array.size_map, Array.size_replicate, List.size_toArray]
    omega
  · simp only [bytesCells, hz, Array.toList_append, Array.toList_map]
    have e2 : (List.map (fun b : UInt8 => Value.int .u8 (b.toNat : Int)) s) = List.map byC s := rfl
    rw [e2]
    have : (List.map byC s).length = s.length := by simp
    rw [← this]
    exact List.take_left
  · rfl
  · rfl
  · rfl
  · rw [bytesWorld_size]; omega

theorem conv_str {P : Program} (w : World) (src dst e : TypeId) (A : Option Addr) (c : Nat) (l : Bts) (hs : P.underlying src = some (.slice e)) (he : P.underlying e = some (.int .u8)) (hd : P.underlying dst = some .string) (hR : Rd EB w A l) :
    (convert src dst (.slice A l.length c)).run P w = .ok (strV l) w := by
  by_cases h0 : l = []
  · subst h0
    cases A with
    | none => rw [run_convert_bytes_string w src dst e none _ c hs he hd]; simp [Conv.bytesToString, strV]; rfl
    | some a => exact run_convert_bytes_back w src dst e a c [] hs he hd (fun j hj => by simp at hj)
  · have hp : 0 < l.length := by cases l with
      | nil => exact absurd rfl h0
      | cons x l => simp
    obtain ⟨b, o, rfl, hb, hc⟩ := hR.at hp
    refine run_convert_bytes_back w src dst e _ c l hs he hd (fun j hj => ?_)
    obtain ⟨b', o', e1, _, hc'⟩ := hR.at hj
    injection e1 with e1
    injection e1 with e2 e3
    subst e2 e3
    have := hc' 0 _ rfl
    have e9 : EB.size = 1 := rfl
    rw [e9, Nat.mul_one, Nat.add_zero] at this
    rw [Addr.add_lit]
    exact this

end Go.Proofs.YtemkpimngbbpkaaGreat

namespace Go.Proofs.YtemkpimngbbpkaaGreat
set_option linter.unusedVariables false
set_option linter.unusedSimpArgs false
set_option linter.unusedVariables false
open Go.RowKit

end Go.Proofs.YtemkpimngbbpkaaGreat

namespace Go.Proofs.YtemkpimngbbpkaaGreat
set_option linter.unusedVariables false
set_option linter.unusedSimpArgs false
set_option linter.unusedVariables false
open Go.RowKit

abbrev Sg := UInt8 × Bts
def sgAt (d : Bts) (i : Nat) : Sg := (d.getD (9 * i) 0, (d.drop (9 * i + 1)).take 8)
def sigs (d : Bts) : List Sg := (List.range (d.length / 9)).map (sgAt d)
def sflat (l : List Sg) : Bts := l.flatMap fun x => x.1 :: x.2
theorem sigs_len (d : Bts) : (sigs d).length = d.length / 9 := by simp [sigs]
theorem sgAt_len {d : Bts} {i : Nat} (h : i < d.length / 9) : (sgAt d i).2.length = 8 := by
  unfold sgAt
  simp only [List.length_take, List.length_drop]
  omega
theorem sigs_8 {d : Bts} : ∀ x ∈ sigs d, x.2.length = 8 := by
  intro x hx
  simp only [sigs, List.mem_map, List.mem_range] at hx
  obtain ⟨i, hi, rfl⟩ := hx
  exact sgAt_len hi
theorem sflat_len {l : List Sg} (h : ∀ x ∈ l, x.2.length = 8) : (sflat l).length = 9 * l.length := by
  induction l with
  | nil => rfl
  | cons x l ih =>
    have h1 := h x (by simp)
    have h2 := ih (fun y hy => h y (by simp [hy]))
    simp only [sflat, List.flatMap_cons, List.length_append, List.length_cons] at h2 ⊢
    omega
theorem sgAt_flat0 (x : Sg) (r : Bts) (h : x.2.length = 8) : sgAt (x.1 :: x.2 ++ r) 0 = x := by
  obtain ⟨a, t⟩ := x
  unfold sgAt
  simp only [Nat.mul_zero, Nat.zero_add, List.cons_append, List.getD_cons_zero, List.drop_succ_cons, List.drop_zero]
  rw [show (8 : Nat) = t.length from h.symm, List.take_left]
theorem sgAt_flatS (x : Sg) (r : Bts) (h : x.2.length = 8) (i : Nat) : sgAt (x.1 :: x.2 ++ r) (i + 1) = sgAt r i := by
  obtain ⟨a, t⟩ := x
  have h' : t.length = 8 := h
  unfold sgAt
  have e1 : 9 * (i + 1) = (9 * i) + (a :: t).length := by rw [List.length_cons, h']; omega
  rw [e1, show (9 * i) + (a :: t).length + 1 = (9 * i + 1) + (a :: t).length by omega]
  have e2 : ∀ k, List.drop (k + (a :: t).length) (a :: t ++ r) = List.drop k r := fun k => by
    rw [Nat.add_comm, List.drop_append, Nat.add_sub_cancel_left, List.drop_eq_nil_of_le (by omega), List.nil_append]
  refine Prod.ext ?_ ?_
  · simp only [List.getD_eq_getElem?_getD]
    congr 1
    rw [List.getElem?_append_right (by omega), Nat.add_sub_cancel]
  · show List.take 8 (List.drop _ _) = _
    rw [e2]
theorem sigs_flat {l : List Sg} (h : ∀ x ∈ l, x.2.length = 8) : sigs (sflat l) = l := by
  induction l with
  | nil => rfl
  | cons x l ih =>
    have h1 := h x (by simp)
    have h2 : ∀ y ∈ l, y.2.length = 8 := fun y hy => h y (by simp [hy])
    have ih := ih h2
    have hl := sflat_len h2
    have e : sflat (x :: l) = x.1 :: x.2 ++ sflat l := by simp [sflat]
    have hlen : (sflat (x :: l)).length / 9 = (sflat l).length / 9 + 1 := by
      rw [e, List.length_append, List.length_cons, h1]; omega
    unfold sigs at ih ⊢
    rw [hlen, List.range_succ_eq_map, List.map_cons, List.map_map, e, sgAt_flat0 x _ h1]
    congr 1
    refine Eq.trans ?_ ih
    refine List.map_congr_left (fun i _ => ?_)
    exact sgAt_flatS x _ h1 i
def okS : Int → List Sg → Bool
  | _, [] => true
  | last, x :: r => decide (last < (x.1.toNat : Int) ∧ x.1.toNat < 16) && okS (x.1.toNat : Int) r
def damB (d : Bts) : Bool := !okS (-1) (sigs d) || decide (d.length = 0) || decide (d.length % 9 ≠ 0)
def findS (l : List Sg) (n : Nat) : Option Bts := (l.find? (fun x => x.1.toNat == n)).map (·.2)
def insS (m : Sg) : List Sg → List Sg
  | [] => [m]
  | x :: r => if m.1.toNat < x.1.toNat then m :: x :: r else x :: insS m r
theorem insS_len (m : Sg) (l : List Sg) : (insS m l).length = l.length + 1 := by
  induction l with
  | nil => rfl
  | cons x r ih => unfold insS; split <;> simp [ih]
theorem insS_8 {m : Sg} {l : List Sg} (hm : m.2.length = 8) (h : ∀ x ∈ l, x.2.length = 8) : ∀ x ∈ insS m l, x.2.length = 8 := by
  induction l with
  | nil => intro x hx; simp [insS] at hx; subst hx; exact hm
  | cons y r ih =>
    intro x hx
    unfold insS at hx
    split at hx
    · rcases List.mem_cons.1 hx with rfl | hx
      · exact hm
      · exact h x hx
    · rcases List.mem_cons.1 hx with rfl | hx
      · exact h _ (by simp)
      · exact ih (fun z hz => h z (by simp [hz])) x hx
theorem insS_ok {m : Sg} (hm : m.1.toNat < 16) : ∀ {l : List Sg} {last : Int}, okS last l = true → last < (m.1.toNat : Int) → findS l m.1.toNat = none → okS last (insS m l) = true
  | [], last, _, h1, _ => by simp [insS, okS, h1, hm]
  | x :: r, last, h, h1, h2 => by
    simp only [okS, Bool.and_eq_true, decide_eq_true_eq] at h
    unfold insS
    split
    · rename_i h3
      simp only [okS, Bool.and_eq_true, decide_eq_true_eq]
      exact ⟨⟨h1, hm⟩, ⟨by omega, h.1.2⟩, h.2⟩
    · rename_i h3
      have hne : ¬ x.1.toNat = m.1.toNat := by
        intro e
        simp [findS, e] at h2
      have h2' : findS r m.1.toNat = none := by
        unfold findS at h2 ⊢
        rw [List.find?_cons_of_neg (by simpa using hne)] at h2
        exact h2
      simp only [okS, Bool.and_eq_true, decide_eq_true_eq]
      exact ⟨h.1, insS_ok hm h.2 (by omega) h2'⟩
theorem insS_find {m : Sg} : ∀ {l : List Sg}, findS l m.1.toNat = none → findS (insS m l) m.1.toNat = some m.2
  | [], _ => by simp [insS, findS]
  | x :: r, h2 => by
    unfold insS
    split
    · simp [findS]
    · have hne : ¬ x.1.toNat = m.1.toNat := by
        intro e
        simp [findS, e] at h2
      have h2' : findS r m.1.toNat = none := by
        unfold findS at h2 ⊢
        rw [List.find?_cons_of_neg (by simpa using hne)] at h2
        exact h2
      unfold findS
      rw [List.find?_cons_of_neg (by simpa using hne)]
      exact insS_find h2'
def putS (m : Sg) (s : List Sg × Bool) (x : Sg) : List Sg × Bool := if !s.2 && decide (m.1.toNat < x.1.toNat) then (s.1 ++ [m, x], true) else (s.1 ++ [x], s.2)
def putR (m : Sg) (l : List Sg) : List Sg × Bool := l.foldl (putS m) ([], false)
theorem putR_snoc (m : Sg) (l : List Sg) (x : Sg) : putR m (l ++ [x]) = putS m (putR m l) x := by simp [putR]
theorem putF_true (m : Sg) : ∀ (l : List Sg) (o : List Sg), l.foldl (putS m) (o, true) = (o ++ l, true)
  | [], o => by simp
  | x :: r, o => by
    rw [List.foldl_cons, show putS m (o, true) x = (o ++ [x], true) from rfl, putF_true m r]
    simp
theorem putF_ins (m : Sg) : ∀ (l : List Sg) (o : List Sg), (let s := l.foldl (putS m) (o, false); if s.2 then s.1 else s.1 ++ [m]) = o ++ insS m l
  | [], o => by simp [insS]
  | x :: r, o => by
    rw [List.foldl_cons]
    by_cases h : m.1.toNat < x.1.toNat
    · rw [show putS m (o, false) x = (o ++ [m, x], true) by simp [putS, h], putF_true]
      simp [insS, h]
    · rw [show putS m (o, false) x = (o ++ [x], false) by simp [putS, h], putF_ins m r]
      simp [insS, h]
theorem putR_ins (m : Sg) (l : List Sg) : (if (putR m l).2 then (putR m l).1 else (putR m l).1 ++ [m]) = insS m l := by
  have h := putF_ins m l []
  rw [List.nil_append] at h
  exact h

end Go.Proofs.YtemkpimngbbpkaaGreat
