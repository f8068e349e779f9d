/- Plans, requests, earliest arrivals, latest times, profiles: plain data and their laws. -/
import Derived.Test.YtmaengcmhopmbaaGreatMemA
import Derived.Test.YtmaengcmhopmbaaGreatCon

/- Layer 22 (plan): plans as plain data, and what Check computes. -/
namespace Go.Proofs.YtmaengcmhopmbaaGreat
set_option linter.unusedVariables false
open Go.RowKit

def ECon : Elt Con := ⟨fun c => c.cells.toList, 7, fun _ => rfl, by omega, fun x u hu => by simp [Con.cells] at hu; rcases hu with h | h | h | h | h | h | h <;> subst h <;> rfl⟩
theorem Rd.con {w : World} {A : Option Addr} {l : List Con} (h : Rd ECon w A l) {k : Nat} (hk : k < l.length) : ∃ b o, A = some ⟨b, o, none⟩ ∧ b < w.heap.size ∧
    w.cell? ⟨b, o + k * 7, none⟩ = some (.int .i64 l[k].src) ∧ w.cell? ⟨b, o + k * 7 + 1, none⟩ = some (.int .i64 l[k].dst) ∧ w.cell? ⟨b, o + k * 7 + 2, none⟩ = some (.int .i64 l[k].st) ∧ w.cell? ⟨b, o + k * 7 + 3, none⟩ = some (.int .i64 l[k].en) ∧
    w.cell? ⟨b, o + k * 7 + 4, none⟩ = some (.int .i64 l[k].rate) ∧ w.cell? ⟨b, o + k * 7 + 5, none⟩ = some (.int .i64 l[k].rng) ∧ w.cell? ⟨b, o + k * 7 + 6, none⟩ = some (.int .i64 l[k].loss) := by
  obtain ⟨b, o, rfl, hb, hc⟩ := h.at hk
  exact ⟨b, o, rfl, hb, hc 0 _ rfl, hc 1 _ rfl, hc 2 _ rfl, hc 3 _ rfl, hc 4 _ rfl, hc 5 _ rfl, hc 6 _ rfl⟩

structure Pln where
  quo : List Int
  cons : List Con
def Pln.val (Aq : Option Addr) (cq : Nat) (Ac : Option Addr) (cc : Nat) (p : Pln) : Value := .agg #[.slice Aq p.quo.length cq, .slice Ac p.cons.length cc]
/-- The plan lies in memory. -/
structure PlnRd (w : World) (Aq : Option Addr) (cq : Nat) (Ac : Option Addr) (cc : Nat) (p : Pln) : Prop where
  q : Rd EInt w Aq p.quo
  c : Rd ECon w Ac p.cons
  qm : p.quo.length ≤ 1000000
  cm : p.cons.length ≤ 1000000
  qc : p.quo.length ≤ cq
  cc : p.cons.length ≤ cc
theorem PlnRd.ext {w w' : World} {Aq : Option Addr} {cq : Nat} {Ac : Option Addr} {cc : Nat} {p : Pln} (h : PlnRd w Aq cq Ac cc p) (hb : Ext w w') : PlnRd w' Aq cq Ac cc p :=
  ⟨h.q.ext hb, h.c.ext hb, h.qm, h.cm, h.qc, h.cc⟩

def quoB (q : Int) : Bool := decide (q < 0) || decide (1073741824 < q)
def Pln.chkC (n : Int) : List Con → List Con → Int
  | _, [] => 0
  | pre, c :: l => if c.check = 0 then (if n ≤ c.src ∨ n ≤ c.dst then 2 else if pre.any (fun d => c.overlapB d) then 14 else chkC n (pre ++ [c]) l) else c.check
def Pln.lim (p : Pln) : Bool := decide (p.quo.length < 1) || (decide (16 < p.quo.length) || decide (64 < p.cons.length))
/-- api.Errno of plan.Check: 0 OK, 1 ErrArgument, 2 ErrRange, 4 ErrLimit, 14 ErrOverlap. -/
def Pln.chk (p : Pln) : Int := if p.lim then 4 else if p.quo.any quoB then 2 else Pln.chkC p.quo.length [] p.cons

theorem Pln.chkC_step {n : Int} {l : List Con} {k : Nat} {c : Con} (h : k < l.length) (hc : l[k] = c) :
    Pln.chkC n (l.take k) (l.drop k) = if c.check = 0 then (if n ≤ c.src ∨ n ≤ c.dst then 2 else if (l.take k).any (fun d => c.overlapB d) then 14 else Pln.chkC n (l.take (k + 1)) (l.drop (k + 1))) else c.check := by
  rw [List.drop_eq_getElem_cons h, hc, take_snoc h hc]
  rfl
theorem overlap_comm (a b : Con) : a.overlapB b = b.overlapB a := by
  rw [Bool.eq_iff_iff]
  simp only [Con.overlapB, Bool.and_eq_true, decide_eq_true_eq]
  constructor
  · rintro ⟨⟨⟨⟨h1, h2⟩, h3⟩, h4⟩, h5⟩
    exact ⟨⟨⟨⟨h2, h1⟩, h3.symm⟩, h4.symm⟩, by omega⟩
  · rintro ⟨⟨⟨⟨h1, h2⟩, h3⟩, h4⟩, h5⟩
    exact ⟨⟨⟨⟨h2, h1⟩, h3.symm⟩, h4.symm⟩, by omega⟩

theorem Pln.chkC_mem {n : Int} : ∀ {pre l : List Con}, Pln.chkC n pre l = 0 → ∀ c ∈ l, c.Ok ∧ c.src < n ∧ c.dst < n
  | _, [], _, c, hc => by simp at hc
  | pre, x :: l, h, c, hc => by
    simp only [Pln.chkC] at h
    split at h
    · rename_i h0
      split at h
      · cases h
      · rename_i h1
        split at h
        · cases h
        · rcases List.mem_cons.1 hc with rfl | hc
          · exact ⟨(Con.check_iff c).1 h0, by omega, by omega⟩
          · exact Pln.chkC_mem h c hc
    · rename_i h0; exact absurd h h0
structure Pln.Ok (p : Pln) : Prop where
  n1 : 1 ≤ p.quo.length
  n16 : p.quo.length ≤ 16
  m64 : p.cons.length ≤ 64
  con : ∀ c ∈ p.cons, c.Ok ∧ c.src < p.quo.length ∧ c.dst < p.quo.length
theorem Pln.ok_of {p : Pln} (h : p.chk = 0) : p.Ok := by
  unfold Pln.chk at h
  split at h
  · cases h
  · rename_i h0
    simp only [Pln.lim, Bool.or_eq_true, decide_eq_true_eq] at h0
    split at h
    · cases h
    · exact ⟨by omega, by omega, by omega, Pln.chkC_mem h⟩

end Go.Proofs.YtmaengcmhopmbaaGreat

/- Requests and hops as plain data. -/
namespace Go.Proofs.YtmaengcmhopmbaaGreat
set_option linter.unusedVariables false
open Go.RowKit

structure Req where
  src : Int
  dst : Int
  size : Int
  ready : Int
  dead : Int
  prio : Int
  cust : Bool
def Req.cells (q : Req) : Array Value := #[.int .i64 q.src, .int .i64 q.dst, .int .i64 q.size, .int .i64 q.ready, .int .i64 q.dead, .int .i64 q.prio, .bool q.cust]
def Req.val (q : Req) : Value := .agg #[.int .i64 q.src, .int .i64 q.dst, .int .i64 q.size, .int .i64 q.ready, .int .i64 q.dead, .int .i64 q.prio, .bool q.cust]
/-- A request that is valid for a plan with n nodes. -/
def Req.okB (q : Req) (n : Nat) : Bool :=
  decide (0 ≤ q.src ∧ q.src < n ∧ 0 ≤ q.dst ∧ q.dst < n ∧ q.src ≠ q.dst ∧ 1 ≤ q.size ∧ q.size ≤ 65536 ∧ 0 ≤ q.ready ∧ q.ready ≤ q.dead ∧ q.dead ≤ 1099511627776 ∧ 0 ≤ q.prio ∧ q.prio ≤ 2)

structure Hp where
  con : Int
  beg : Int
  en : Int
  arr : Int
def Hp.cells (h : Hp) : List Value := [.int .i64 h.con, .int .i64 h.beg, .int .i64 h.en, .int .i64 h.arr]
def Hp.val (h : Hp) : Value := .agg #[.int .i64 h.con, .int .i64 h.beg, .int .i64 h.en, .int .i64 h.arr]
def EHp : Elt Hp := ⟨Hp.cells, 4, fun _ => rfl, by omega, fun x u hu => by simp [Hp.cells] at hu; rcases hu with h | h | h | h <;> subst h <;> rfl⟩
theorem Rd.hp {w : World} {A : Option Addr} {l : List Hp} (h : Rd EHp w A l) {k : Nat} (hk : k < l.length) : ∃ b o, A = some ⟨b, o, none⟩ ∧ b < w.heap.size ∧
    w.cell? ⟨b, o + k * 4, none⟩ = some (.int .i64 l[k].con) ∧ w.cell? ⟨b, o + k * 4 + 1, none⟩ = some (.int .i64 l[k].beg) ∧ w.cell? ⟨b, o + k * 4 + 2, none⟩ = some (.int .i64 l[k].en) ∧ w.cell? ⟨b, o + k * 4 + 3, none⟩ = some (.int .i64 l[k].arr) := by
  obtain ⟨b, o, rfl, hb, hc⟩ := h.at hk
  exact ⟨b, o, rfl, hb, hc 0 _ rfl, hc 1 _ rfl, hc 2 _ rfl, hc 3 _ rfl⟩
def hpEq (x y : Hp) : Bool := x.con == y.con && (x.beg == y.beg && (x.en == y.en && x.arr == y.arr))
theorem hpEq_iff {x y : Hp} : hpEq x y = true ↔ x = y := by
  obtain ⟨a, b, c, d⟩ := x
  obtain ⟨a', b', c', d'⟩ := y
  simp [hpEq]
def eqLB {α : Type} (f : α → α → Bool) : List α → List α → Bool
  | [], [] => true
  | x :: l, y :: m => f x y && eqLB f l m
  | _, _ => false
theorem eqLB_step {α : Type} {f : α → α → Bool} {l m : List α} {k : Nat} (h1 : k < l.length) (h2 : k < m.length) : eqLB f (l.drop k) (m.drop k) = (f l[k] m[k] && eqLB f (l.drop (k + 1)) (m.drop (k + 1))) := by
  rw [List.drop_eq_getElem_cons h1, List.drop_eq_getElem_cons h2]
  rfl
theorem eqLB_len {α : Type} {f : α → α → Bool} : ∀ {l m : List α}, l.length ≠ m.length → eqLB f l m = false
  | [], [], h => absurd rfl h
  | [], _ :: _, _ => rfl
  | _ :: _, [], _ => rfl
  | x :: l, y :: m, h => by
    have := eqLB_len (f := f) (l := l) (m := m) (by simpa using h)
    simp [eqLB, this]
theorem eqLB_refl {α : Type} {f : α → α → Bool} (hf : ∀ x, f x x = true) : ∀ l : List α, eqLB f l l = true
  | [] => rfl
  | x :: l => by simp [eqLB, hf, eqLB_refl hf l]

/-- A list and an error number. -/
def RetA {α : Type} (E : Elt α) (w : World) (out : List α) (k : Int) (e : Ending) (w' : World) : Prop :=
  ∃ A c, e = .returned (.tuple #[.slice A out.length c, .int .i64 k]) ∧ Rd E w' A out ∧ Ext w w' ∧ out.length ≤ c

end Go.Proofs.YtmaengcmhopmbaaGreat

/- Layer 25 (latest): the latest times as plain data, and the plain laws. -/
namespace Go.Proofs.YtmaengcmhopmbaaGreat
set_option linter.unusedVariables false
open Go.RowKit

/-- The latest begin of a transmission that arrives by a time; -1 if there is none. -/
def lbeg (c : Con) (t size : Int) : Int :=
  if t = -1 then -1 else if min c.en (t - c.rng) - c.dur size < c.st then -1 else min c.en (t - c.rng) - c.dur size
theorem lbeg_cases (c : Con) (t size : Int) : lbeg c t size = -1 ∨ (t ≠ -1 ∧ c.st ≤ lbeg c t size ∧ lbeg c t size ≤ c.en - c.dur size ∧ lbeg c t size + c.dur size + c.rng ≤ t ∧ lbeg c t size = min c.en (t - c.rng) - c.dur size) := by
  unfold lbeg
  split
  · exact .inl rfl
  · split
    · exact .inl rfl
    · right; omega
theorem lbeg_ge {c : Con} {t size : Int} (h : 0 ≤ c.st) : -1 ≤ lbeg c t size := by
  rcases lbeg_cases c t size with h1 | ⟨_, h1, _⟩ <;> omega
theorem lbeg_most {c : Con} {t size b : Int} (ht : t ≠ -1) (h1 : c.st ≤ b) (h2 : b ≤ c.en - c.dur size) (h3 : b + c.dur size + c.rng ≤ t) : b ≤ lbeg c t size := by
  unfold lbeg
  rw [if_neg ht, if_neg (by omega)]
  omega
theorem lbeg_mono {c : Con} {s t size size' : Int} (h0 : 0 ≤ c.st) (hs : -1 ≤ s) (hst : s ≤ t) (hd : c.dur size' ≤ c.dur size) : lbeg c s size ≤ lbeg c t size' := by
  rcases lbeg_cases c s size with h1 | ⟨h1, h2, h3, h4, h5⟩
  · rw [h1]; exact lbeg_ge h0
  · exact lbeg_most (by omega) h2 (by omega) (by omega)

def lstep (dest size : Int) (s : Bool × List Int) (c : Con) : Bool × List Int :=
  if c.src ≠ dest ∧ gi s.2 c.src < lbeg c (gi s.2 c.dst) size then (true, s.2.set c.src.toNat (lbeg c (gi s.2 c.dst) size)) else s
def lpass (dest size : Int) (cons : List Con) (m : List Int) : Bool × List Int := cons.foldl (lstep dest size) (false, m)
def liter (dest size : Int) (cons : List Con) : Nat → List Int → List Int
  | 0, m => m
  | n + 1, m => if (lpass dest size cons m).1 then liter dest size cons n (lpass dest size cons m).2 else m

/-- How far the times can still grow. -/
def mu (D : Int) (m : List Int) : Nat := (m.map fun x => (D - x).toNat).sum
theorem mu_set : ∀ {D : Int} {m : List Int} {k : Nat} {v : Int}, (h : k < m.length) → m[k] < v → v ≤ D → mu D (m.set k v) < mu D m
  | D, x :: m, 0, v, _, h1, h2 => by
    simp only [mu, List.set_cons_zero, List.map_cons, List.sum_cons, List.getElem_cons_zero] at *
    omega
  | D, x :: m, k + 1, v, h, h1, h2 => by
    have ih := mu_set (D := D) (m := m) (k := k) (v := v) (by simpa using h) (by simpa using h1) h2
    simp only [mu, List.set_cons_succ, List.map_cons, List.sum_cons] at *
    omega

/-- Contacts of a valid plan of n nodes. -/
def Cons (n : Nat) (cons : List Con) : Prop := ∀ c ∈ cons, c.Ok ∧ c.src < n ∧ c.dst < n
/-- Times between passes. -/
structure LInv (n : Nat) (D dest : Int) (m : List Int) : Prop where
  len : m.length = n
  lo : ∀ x ∈ m, -1 ≤ x
  hi : ∀ x ∈ m, x ≤ D
  dst : gi m dest = D

theorem lstep_inv {n : Nat} {D dest size : Int} {s : Bool × List Int} {c : Con} (hc : c.Ok ∧ c.src < n ∧ c.dst < n) (hsz : 1 ≤ size ∧ size ≤ 65536) (hd : 0 ≤ dest) (h : LInv n D dest s.2) :
    LInv n D dest (lstep dest size s c).2 ∧ mu D (lstep dest size s c).2 ≤ mu D s.2 ∧ ((lstep dest size s c).1 = true → s.1 = true ∨ mu D (lstep dest size s c).2 < mu D s.2) ∧ ((lstep dest size s c).1 = false → lstep dest size s c = s) ∧ (s.1 = true → (lstep dest size s c).1 = true) := by
  have d := Con.dur_bd hc.1 hsz.1 hsz.2
  have hs0 := hc.1.src0
  have hd0 := hc.1.dst0
  have hr := hc.1.rng0
  have hst := hc.1.st0
  unfold lstep
  split
  · rename_i hh
    have hk : c.src.toNat < s.2.length := by rw [h.len]; omega
    have hdm := h.hi _ (gi_mem (i := c.dst) (by rw [h.len]; omega))
    have hle : lbeg c (gi s.2 c.dst) size ≤ D := by
      rcases lbeg_cases c (gi s.2 c.dst) size with h1 | ⟨_, h2, h3, h4, h5⟩
      · have := h.lo _ (gi_mem (m := s.2) (i := c.dst) (by rw [h.len]; omega)); omega
      · omega
    have hmu := mu_set (D := D) hk (by rw [← gi_of hs0 hk]; exact hh.2) hle
    refine ⟨⟨by simpa using h.len, ?_, ?_, ?_⟩, Nat.le_of_lt hmu, fun _ => .inr hmu, fun h => (by cases h), fun _ => rfl⟩
    · intro x hx
      rcases List.mem_or_eq_of_mem_set hx with hx | rfl
      · exact h.lo x hx
      · exact lbeg_ge hst
    · intro x hx
      rcases List.mem_or_eq_of_mem_set hx with hx | rfl
      · exact h.hi x hx
      · exact hle
    · rw [gi_set hk, if_neg (by omega)]; exact h.dst
  · exact ⟨h, Nat.le_refl _, fun h => .inl h, fun _ => rfl, id⟩

theorem lfold_inv {n : Nat} {D dest size : Int} (hsz : 1 ≤ size ∧ size ≤ 65536) (hd : 0 ≤ dest) : ∀ (cons : List Con) (s : Bool × List Int), Cons n cons → LInv n D dest s.2 →
    LInv n D dest (cons.foldl (lstep dest size) s).2 ∧ mu D (cons.foldl (lstep dest size) s).2 ≤ mu D s.2 ∧ ((cons.foldl (lstep dest size) s).1 = true → s.1 = true ∨ mu D (cons.foldl (lstep dest size) s).2 < mu D s.2) ∧ ((cons.foldl (lstep dest size) s).1 = false → cons.foldl (lstep dest size) s = s) ∧ (s.1 = true → (cons.foldl (lstep dest size) s).1 = true)
  | [], s, _, h => ⟨h, Nat.le_refl _, fun h => .inl h, fun _ => rfl, id⟩
  | c :: cons, s, hc, h => by
    have h1 := lstep_inv (hc c (by simp)) hsz hd h
    have h2 := lfold_inv hsz hd cons (lstep dest size s c) (fun x hx => hc x (by simp [hx])) h1.1
    simp only [List.foldl_cons]
    refine ⟨h2.1, Nat.le_trans h2.2.1 h1.2.1, fun e => ?_, fun e => ?_, fun e => h2.2.2.2.2 (h1.2.2.2.2 e)⟩
    · rcases h2.2.2.1 e with e1 | e1
      · rcases h1.2.2.1 e1 with e2 | e2
        · exact .inl e2
        · exact .inr (Nat.lt_of_le_of_lt h2.2.1 e2)
      · exact .inr (Nat.lt_of_lt_of_le e1 h1.2.1)
    · have e1 := h2.2.2.2.1 e
      rw [e1] at e
      rw [e1, h1.2.2.2.1 e]
theorem lpass_inv {n : Nat} {D dest size : Int} {cons : List Con} {m : List Int} (hsz : 1 ≤ size ∧ size ≤ 65536) (hd : 0 ≤ dest) (hc : Cons n cons) (h : LInv n D dest m) :
    LInv n D dest (lpass dest size cons m).2 ∧ ((lpass dest size cons m).1 = true → mu D (lpass dest size cons m).2 < mu D m) ∧ ((lpass dest size cons m).1 = false → (lpass dest size cons m).2 = m) := by
  have h1 := lfold_inv hsz hd cons (false, m) hc h
  refine ⟨h1.1, fun e => ?_, fun e => ?_⟩
  · rcases h1.2.2.1 e with h2 | h2
    · cases h2
    · exact h2
  · have := h1.2.2.2.1 e
    unfold lpass; rw [this]

/-- No contact improves anything. -/
def LFix (dest size : Int) (cons : List Con) (m : List Int) : Prop := ∀ c ∈ cons, c.src ≠ dest → lbeg c (gi m c.dst) size ≤ gi m c.src
theorem lfold_stop {n : Nat} {D dest size : Int} (hsz : 1 ≤ size ∧ size ≤ 65536) (hd : 0 ≤ dest) : ∀ (cons : List Con) (m : List Int), Cons n cons → LInv n D dest m → (cons.foldl (lstep dest size) (false, m)).1 = false → LFix dest size cons m
  | [], _, _, _, _ => fun c hc => by simp at hc
  | c :: cons, m, hc, h, e => by
    simp only [List.foldl_cons] at e
    have h1 := lstep_inv (s := (false, m)) (hc c (by simp)) hsz hd h
    have h2 := lfold_inv hsz hd cons (lstep dest size (false, m) c) (fun x hx => hc x (by simp [hx])) h1.1
    have e0 : (lstep dest size (false, m) c).1 = false := by
      cases hx : (lstep dest size (false, m) c).1
      · rfl
      · have := h2.2.2.2.2 hx
        rw [e] at this; cases this
    have e1 := h1.2.2.2.1 e0
    rw [e1] at e
    have ih := lfold_stop hsz hd cons m (fun x hx => hc x (by simp [hx])) h e
    intro x hx hne
    rcases List.mem_cons.1 hx with rfl | hx
    · unfold lstep at e0
      split at e0
      · cases e0
      · rename_i hh
        simp only at hh
        omega
    · exact ih x hx hne

theorem liter_inv {n : Nat} {D dest size : Int} {cons : List Con} (hsz : 1 ≤ size ∧ size ≤ 65536) (hd : 0 ≤ dest) (hc : Cons n cons) : ∀ (k : Nat) (m : List Int), LInv n D dest m → mu D m ≤ k →
    LInv n D dest (liter dest size cons k m) ∧ LFix dest size cons (liter dest size cons k m)
  | 0, m, h, hk => by
    refine ⟨h, ?_⟩
    have hp := lpass_inv hsz hd hc h
    cases e : (lpass dest size cons m).1
    · exact lfold_stop hsz hd cons m hc h e
    · have := hp.2.1 e; omega
  | k + 1, m, h, hk => by
    have hp := lpass_inv hsz hd hc h
    simp only [liter]
    cases e : (lpass dest size cons m).1
    · exact ⟨h, lfold_stop hsz hd cons m hc h e⟩
    · have := hp.2.1 e
      exact liter_inv hsz hd hc k _ hp.1 (by omega)

/-- The times at the start. -/
def lstart (n : Nat) (dest D : Int) : List Int := (List.replicate n (-1)).set dest.toNat D
theorem lstart_inv {n : Nat} {dest D : Int} (hd : 0 ≤ dest ∧ dest < n) (hD : 0 ≤ D) : LInv n D dest (lstart n dest D) := by
  have hk : dest.toNat < (List.replicate n (-1 : Int)).length := by simp; omega
  refine ⟨by simp [lstart], ?_, ?_, ?_⟩
  · intro x hx
    rcases List.mem_or_eq_of_mem_set hx with hx | rfl
    · rw [List.eq_of_mem_replicate hx]; omega
    · omega
  · intro x hx
    rcases List.mem_or_eq_of_mem_set hx with hx | rfl
    · rw [List.eq_of_mem_replicate hx]; omega
    · omega
  · unfold lstart; rw [gi_set hk, if_pos rfl]

def Pln.times (p : Pln) (dest D size : Int) : List Int := liter dest size p.cons (mu D (lstart p.quo.length dest D)) (lstart p.quo.length dest D)
def Pln.argB (p : Pln) (dest D size : Int) : Bool := decide (0 ≤ dest ∧ dest < p.quo.length ∧ 0 ≤ D ∧ D ≤ 1099511627776 ∧ 1 ≤ size ∧ size ≤ 65536)
theorem Pln.times_inv {p : Pln} {dest D size : Int} (h : p.Ok) (ha : p.argB dest D size = true) : LInv p.quo.length D dest (p.times dest D size) ∧ LFix dest size p.cons (p.times dest D size) := by
  simp only [Pln.argB, decide_eq_true_eq] at ha
  exact liter_inv ⟨ha.2.2.2.2.1, ha.2.2.2.2.2⟩ ha.1 h.con _ _ (lstart_inv ⟨ha.1, ha.2.1⟩ ha.2.2.1) (Nat.le_refl _)

/-- Where a time that is not -1 comes from. -/
def LSup (dest size : Int) (cons : List Con) (m : List Int) : Prop := ∀ i : Nat, i < m.length → (i : Int) ≠ dest → 0 ≤ gi m i → ∃ c ∈ cons, c.src = i ∧ gi m i ≤ lbeg c (gi m c.dst) size
theorem lstep_sup {n : Nat} {D dest size : Int} {s : Bool × List Int} {c : Con} {all : List Con} (hall : Cons n all) (hin : c ∈ all) (h : LInv n D dest s.2) (hs : LSup dest size all s.2) : LSup dest size all (lstep dest size s c).2 := by
  have hc := hall c hin
  have hs0 := hc.1.src0
  have hd0 := hc.1.dst0
  unfold lstep
  split
  · rename_i hh
    have hk : c.src.toNat < s.2.length := by rw [h.len]; omega
    have hup : ∀ j : Int, gi s.2 j ≤ gi (s.2.set c.src.toNat (lbeg c (gi s.2 c.dst) size)) j := by
      intro j
      rw [gi_set hk]
      split
      · rename_i e
        have : gi s.2 j = gi s.2 c.src := by unfold gi; rw [e]
        omega
      · omega
    intro i hil hi h0
    simp only [List.length_set] at hil h0 ⊢
    by_cases e : i = c.src.toNat
    · refine ⟨c, hin, by omega, ?_⟩
      rw [gi_set hk, if_pos (by omega), gi_set hk, if_neg (by have := hc.1.ne; omega)]
      omega
    · rw [gi_set hk, if_neg (by omega)] at h0 ⊢
      obtain ⟨d, hd, hd1, hd2⟩ := hs i hil hi h0
      refine ⟨d, hd, hd1, Int.le_trans hd2 (lbeg_mono (hall d hd).1.st0 (h.lo _ (gi_mem (by rw [h.len]; have := (hall d hd).1.dst0; have := (hall d hd).2.2; omega))) (hup _) (Int.le_refl _))⟩
  · exact hs
theorem lfold_sup {n : Nat} {D dest size : Int} {all : List Con} (hsz : 1 ≤ size ∧ size ≤ 65536) (hd : 0 ≤ dest) (hall : Cons n all) : ∀ (cons : List Con) (s : Bool × List Int), (∀ c ∈ cons, c ∈ all) → LInv n D dest s.2 → LSup dest size all s.2 → LSup dest size all (cons.foldl (lstep dest size) s).2
  | [], _, _, _, h => h
  | c :: cons, s, hin, hi, h => by
    simp only [List.foldl_cons]
    exact lfold_sup hsz hd hall cons _ (fun x hx => hin x (by simp [hx])) (lstep_inv (hall c (hin c (by simp))) hsz hd hi).1 (lstep_sup hall (hin c (by simp)) hi h)
theorem liter_sup {n : Nat} {D dest size : Int} {cons : List Con} (hsz : 1 ≤ size ∧ size ≤ 65536) (hd : 0 ≤ dest) (hc : Cons n cons) : ∀ (k : Nat) (m : List Int), LInv n D dest m → LSup dest size cons m → LSup dest size cons (liter dest size cons k m)
  | 0, _, _, h => h
  | k + 1, m, hi, h => by
    simp only [liter]
    split
    · exact liter_sup hsz hd hc k _ (lpass_inv hsz hd hc hi).1 (lfold_sup hsz hd hc cons _ (fun x hx => hx) hi h)
    · exact h
theorem Pln.times_sup {p : Pln} {dest D size : Int} (h : p.Ok) (ha : p.argB dest D size = true) {i : Int} (h0 : 0 ≤ i) (hin : i < p.quo.length) (hi : i ≠ dest) (hg : 0 ≤ gi (p.times dest D size) i) :
    ∃ c ∈ p.cons, c.src = i ∧ lbeg c (gi (p.times dest D size) c.dst) size = gi (p.times dest D size) i := by
  have ha2 := ha
  simp only [Pln.argB, decide_eq_true_eq] at ha2
  have hs : LSup dest size p.cons (lstart p.quo.length dest D) := by
    intro j hjl hj hg
    exfalso
    have hk : dest.toNat < (List.replicate p.quo.length (-1 : Int)).length := by simp; omega
    unfold lstart at hg
    rw [gi_set hk, if_neg (by omega)] at hg
    have hl : j < p.quo.length := by simpa [lstart] using hjl
    have : gi (List.replicate p.quo.length (-1 : Int)) (j : Int) = -1 := by
      unfold gi; simp [hl]
    omega
  have h1 := liter_sup ⟨ha2.2.2.2.2.1, ha2.2.2.2.2.2⟩ ha2.1 h.con (mu D (lstart p.quo.length dest D)) _ (lstart_inv ⟨ha2.1, ha2.2.1⟩ ha2.2.2.1) hs
  obtain ⟨c, hc, e1, e2⟩ := h1 i.toNat (by have := (Pln.times_inv h ha).1.len; unfold Pln.times at this; omega) (by omega) (by rw [Int.toNat_of_nonneg h0]; exact hg)
  rw [Int.toNat_of_nonneg h0] at e1 e2
  refine ⟨c, hc, e1, ?_⟩
  have h2 := (Pln.times_inv h ha).2 c hc (by omega)
  rw [e1] at h2
  unfold Pln.times at *
  omega

end Go.Proofs.YtmaengcmhopmbaaGreat

/- Layer 24 (journey): the earliest arrivals as plain data, and the plain laws. -/
namespace Go.Proofs.YtmaengcmhopmbaaGreat
set_option linter.unusedVariables false
open Go.RowKit

/-- The arrival of the earliest transmission from a time on; -1 if there is none. -/
def earr (c : Con) (t n : Int) : Int := if c.fitsB (c.beg t) n then c.beg t + c.dur n + c.rng else -1
theorem beg_ge (c : Con) (t : Int) : t ≤ c.beg t ∧ c.st ≤ c.beg t := by unfold Con.beg; split <;> omega
theorem beg_mono (c : Con) {s t : Int} (h : s ≤ t) : c.beg s ≤ c.beg t := by unfold Con.beg; split <;> split <;> omega
theorem earr_cases {c : Con} {t n : Int} (h : c.Ok) (hn : 1 ≤ n ∧ n ≤ 65536) :
    (earr c t n = -1 ∧ c.fitsB (c.beg t) n = false) ∨ (c.fitsB (c.beg t) n = true ∧ c.beg t ≤ c.en - c.dur n ∧ earr c t n = c.beg t + c.dur n + c.rng ∧ t + 2 ≤ earr c t n ∧ 2 ≤ earr c t n ∧ earr c t n ≤ 1099511627776) := by
  have d := Con.dur_bd h hn.1 hn.2
  have b := beg_ge c t
  have := h.st0
  have := h.rng0
  have := h.en1
  unfold earr
  cases hf : c.fitsB (c.beg t) n
  · simp
  · right
    simp only [Con.fitsB, decide_eq_true_eq] at hf
    rw [if_pos rfl]
    refine ⟨rfl, hf.2, rfl, ?_, ?_, ?_⟩ <;> omega
theorem earr_mono {c : Con} {s t m n : Int} (h : c.Ok) (hst : s ≤ t) (hm : 1 ≤ m) (hmn : m ≤ n) (hn : n ≤ 65536) (he : earr c t n ≠ -1) : earr c s m ≠ -1 ∧ 0 ≤ earr c s m ∧ earr c s m ≤ earr c t n := by
  have d := Con.dur_mono (c := c) h.rate0 (by omega : 0 ≤ m) hmn
  have b := beg_mono c hst
  have b2 := beg_ge c s
  rcases earr_cases (t := t) h ⟨by omega, hn⟩ with h1 | ⟨h1, h2, h3, h4, h5, h6⟩
  · exact absurd h1.1 he
  · rcases earr_cases (t := s) h ⟨hm, by omega⟩ with g1 | ⟨g1, g2, g3, g4, g5, g6⟩
    · have := g1.2
      simp only [Con.fitsB, decide_eq_false_iff_not] at this
      omega
    · omega

/-- Where one can be with at most k hops, and when. -/
inductive RK (cons : List Con) (n src t0 : Int) : Nat → Int → Int → Prop where
  | start (k : Nat) : RK cons n src t0 k src t0
  | step {k : Nat} {i t : Int} {c : Con} : RK cons n src t0 k i t → c ∈ cons → c.src = i → earr c t n ≠ -1 → RK cons n src t0 (k + 1) c.dst (earr c t n)
structure JC (N : Nat) (cons : List Con) (n src t0 : Int) : Prop where
  con : Cons N cons
  n1 : 1 ≤ n
  n2 : n ≤ 65536
  s0 : 0 ≤ src
  s1 : src < N
  r0 : 0 ≤ t0
  r1 : t0 ≤ 1099511627776
theorem RK.rng {N : Nat} {cons : List Con} {n src t0 : Int} (J : JC N cons n src t0) {k : Nat} {i t : Int} (h : RK cons n src t0 k i t) : 0 ≤ i ∧ i < N ∧ t0 ≤ t ∧ t ≤ 1099511627776 := by
  induction h with
  | start k => exact ⟨J.s0, J.s1, Int.le_refl _, J.r1⟩
  | step h hc hi he ih =>
    rename_i k i t c
    have hok := J.con c hc
    have h1 := hok.1.dst0
    have h2 := hok.2.2
    rcases earr_cases (t := t) hok.1 ⟨J.n1, J.n2⟩ with g | ⟨g1, g2, g3, g4, g5, g6⟩
    · exact absurd g.1 he
    · exact ⟨h1, h2, by omega, g6⟩
theorem RK.succ {cons : List Con} {n src t0 : Int} {k : Nat} {i t : Int} (h : RK cons n src t0 k i t) : RK cons n src t0 (k + 1) i t := by
  induction h with
  | start k => exact .start _
  | step h hc hi he ih => exact .step ih hc hi he
theorem RK.more {cons : List Con} {n src t0 : Int} {k : Nat} {i t : Int} (h : RK cons n src t0 k i t) : ∀ d : Nat, RK cons n src t0 (k + d) i t
  | 0 => h
  | d + 1 => (RK.more h d).succ
theorem RK.zero {cons : List Con} {n src t0 : Int} {i t : Int} (h : RK cons n src t0 0 i t) : i = src ∧ t = t0 := by
  cases h; exact ⟨rfl, rfl⟩

/-- The list of the least times; -1 where there is none. -/
structure Least (N : Nat) (R : Int → Int → Prop) (m : List Int) : Prop where
  len : m.length = N
  snd : ∀ i : Int, 0 ≤ i → i < N → gi m i = -1 ∨ R i (gi m i)
  best : ∀ i t, R i t → 0 ≤ gi m i ∧ gi m i ≤ t
theorem gi_ext {m m' : List Int} (hl : m.length = m'.length) (h : ∀ i : Int, 0 ≤ i → i < m.length → gi m i = gi m' i) : m = m' := by
  apply List.ext_getElem hl
  intro i h1 h2
  have := h i (by omega) (by omega)
  rwa [gi_get h1, gi_get h2] at this
theorem Least.unique {N : Nat} {R : Int → Int → Prop} {m m' : List Int} (h : Least N R m) (h' : Least N R m') : m = m' := by
  apply gi_ext (h.len.trans h'.len.symm)
  intro i h0 h1
  have hN : i < N := by have := h.len; omega
  rcases h.snd i h0 hN with e | e
  · rcases h'.snd i h0 hN with e' | e'
    · omega
    · have := h.best _ _ e'; omega
  · have h2 := h'.best _ _ e
    rcases h'.snd i h0 hN with e' | e'
    · omega
    · have := h.best _ _ e'; omega
theorem min_ex {P : Int → Prop} (h0 : ∀ t, P t → 0 ≤ t) : (∀ t, ¬ P t) ∨ ∃ t, P t ∧ ∀ s, P s → t ≤ s := by
  have key : ∀ (n : Nat) (t : Int), P t → t.toNat ≤ n → ∃ t, P t ∧ ∀ s, P s → t ≤ s := by
    intro n
    induction n with
    | zero =>
      intro t ht hn
      exact ⟨t, ht, fun s hs => by have := h0 s hs; have := h0 t ht; omega⟩
    | succ n ih =>
      intro t ht hn
      by_cases h : ∃ s, P s ∧ s < t
      · obtain ⟨s, hs, hst⟩ := h
        exact ih s hs (by have := h0 s hs; omega)
      · exact ⟨t, ht, fun s hs => by
          apply Classical.byContradiction
          intro hh
          exact h ⟨s, hs, by omega⟩⟩
  by_cases h : ∃ t, P t
  · obtain ⟨t, ht⟩ := h
    exact .inr (key _ t ht (Nat.le_refl _))
  · exact .inl fun t ht => h ⟨t, ht⟩
theorem list_ex {q : Nat → Int → Prop} : ∀ (n : Nat), (∀ i, i < n → ∃ x, q i x) → ∃ l : List Int, l.length = n ∧ ∀ (i : Nat) (h : i < l.length), q i l[i]
  | 0, _ => ⟨[], rfl, fun i h => by simp at h⟩
  | n + 1, h => by
    obtain ⟨l, hl, hq⟩ := list_ex n (fun i hi => h i (by omega))
    obtain ⟨x, hx⟩ := h n (by omega)
    refine ⟨l ++ [x], by simp [hl], fun i hi => ?_⟩
    by_cases hin : i < l.length
    · rw [List.getElem_append_left hin]; exact hq i hin
    · have : i = n := by simp [hl] at hi; omega
      subst this
      subst hl
      simpa using hx
theorem Least.exists {N : Nat} {R : Int → Int → Prop} (hR : ∀ i t, R i t → 0 ≤ i ∧ i < N ∧ 0 ≤ t) : ∃ m, Least N R m := by
  obtain ⟨l, hl, hq⟩ := list_ex (q := fun i x => (x = -1 ∨ R i x) ∧ ∀ t, R i t → 0 ≤ x ∧ x ≤ t) N (fun i hi => by
    rcases min_ex (P := R i) (fun t ht => (hR _ _ ht).2.2) with h | ⟨t, ht, h⟩
    · exact ⟨-1, .inl rfl, fun t ht => absurd ht (h t)⟩
    · exact ⟨t, .inr ht, fun s hs => ⟨(hR _ _ ht).2.2, h s hs⟩⟩)
  have key : ∀ i : Int, 0 ≤ i → i < N → (gi l i = -1 ∨ R i (gi l i)) ∧ ∀ t, R i t → 0 ≤ gi l i ∧ gi l i ≤ t := by
    intro i h0 h1
    have hk : i.toNat < l.length := by omega
    have := hq i.toNat hk
    rw [Int.toNat_of_nonneg h0] at this
    rw [gi_of h0 hk]
    exact this
  exact ⟨l, hl, fun i h0 h1 => (key i h0 h1).1, fun i t h => (key i (hR _ _ h).1 (hR _ _ h).2.1).2 t h⟩

theorem lstart_gi {N : Nat} {src t0 : Int} (h0 : 0 ≤ src) (h1 : src < N) {i : Int} (hi : 0 ≤ i) (hN : i < N) : gi (lstart N src t0) i = if i = src then t0 else -1 := by
  have hk : src.toNat < (List.replicate N (-1 : Int)).length := by simp; omega
  unfold lstart
  rw [gi_set hk]
  by_cases h : i = src
  · rw [if_pos (by rw [h]), if_pos h]
  · rw [if_neg (by omega), if_neg h]
    have : i.toNat < N := by omega
    simp [gi, this]
theorem lstart_len (N : Nat) (src t0 : Int) : (lstart N src t0).length = N := by simp [lstart]
theorem lstart_least {N : Nat} {cons : List Con} {n src t0 : Int} (J : JC N cons n src t0) : Least N (RK cons n src t0 0) (lstart N src t0) := by
  refine ⟨lstart_len _ _ _, fun i h0 h1 => ?_, fun i t h => ?_⟩
  · rw [lstart_gi J.s0 J.s1 h0 h1]
    split
    · rename_i h; subst h; exact .inr (.start 0)
    · exact .inl rfl
  · obtain ⟨rfl, rfl⟩ := h.zero
    rw [lstart_gi J.s0 J.s1 J.s0 J.s1, if_pos rfl]
    exact ⟨J.r0, Int.le_refl _⟩

def relax (out : List Int) (j a : Int) : List Int := if a ≠ -1 ∧ (gi out j < 0 ∨ a < gi out j) then out.set j.toNat a else out
theorem relax_len (out : List Int) (j a : Int) : (relax out j a).length = out.length := by unfold relax; split <;> simp
theorem relax_gi {out : List Int} {j a : Int} (hj : 0 ≤ j) (hl : j < out.length) {i : Int} (hi : 0 ≤ i) :
    (gi (relax out j a) i = gi out i ∧ (i = j → ¬ (a ≠ -1 ∧ (gi out j < 0 ∨ a < gi out j)))) ∨ (i = j ∧ gi (relax out j a) i = a ∧ a ≠ -1 ∧ (gi out j < 0 ∨ a < gi out j)) := by
  unfold relax
  split
  · rename_i h
    rw [gi_set (by omega)]
    by_cases e : i = j
    · rw [if_pos (by rw [e])]; exact .inr ⟨e, rfl, h⟩
    · rw [if_neg (by omega)]; exact .inl ⟨rfl, fun e' => absurd e' e⟩
  · rename_i h
    exact .inl ⟨rfl, fun _ => h⟩
def rstep (n : Int) (m : List Int) (out : List Int) (c : Con) : List Int := if 0 ≤ gi m c.src then relax out c.dst (earr c (gi m c.src) n) else out
def rnd (cons : List Con) (n : Int) (m : List Int) : List Int := cons.foldl (rstep n m) m
def rnds (cons : List Con) (n : Int) (m : List Int) : Nat → List Int
  | 0 => m
  | k + 1 => rnd cons n (rnds cons n m k)

section
variable {N : Nat} {cons : List Con} {n src t0 : Int}
/-- Within a round. -/
structure RI (N : Nat) (cons : List Con) (n src t0 : Int) (k : Nat) (m out : List Int) (D : Con → Prop) : Prop where
  len : out.length = N
  snd : ∀ i : Int, 0 ≤ i → i < N → gi out i = -1 ∨ RK cons n src t0 (k + 1) i (gi out i)
  le : ∀ i : Int, 0 ≤ i → i < N → 0 ≤ gi m i → 0 ≤ gi out i ∧ gi out i ≤ gi m i
  rel : ∀ c ∈ cons, D c → 0 ≤ gi m c.src → earr c (gi m c.src) n ≠ -1 → 0 ≤ gi out c.dst ∧ gi out c.dst ≤ earr c (gi m c.src) n
theorem RI.init {k : Nat} {m : List Int} (h : Least N (RK cons n src t0 k) m) : RI N cons n src t0 k m m (fun _ => False) :=
  ⟨h.len, fun i h0 h1 => (h.snd i h0 h1).imp id RK.succ, fun i _ _ h => ⟨h, Int.le_refl _⟩, fun _ _ h => h.elim⟩
theorem RI.weak {k : Nat} {m out : List Int} {D D' : Con → Prop} (h : RI N cons n src t0 k m out D) (hD : ∀ c ∈ cons, D' c → 0 ≤ gi m c.src → earr c (gi m c.src) n ≠ -1 → D c) : RI N cons n src t0 k m out D' :=
  ⟨h.len, h.snd, h.le, fun c hc hd h0 he => h.rel c hc (hD c hc hd h0 he) h0 he⟩
theorem RI.relax (J : JC N cons n src t0) {k : Nat} {m out : List Int} {D : Con → Prop} (hm : Least N (RK cons n src t0 k) m) (h : RI N cons n src t0 k m out D) {c : Con} (hc : c ∈ cons) (h0 : 0 ≤ gi m c.src) :
    RI N cons n src t0 k m (relax out c.dst (earr c (gi m c.src) n)) (fun x => D x ∨ x = c) := by
  have hok := J.con c hc
  have s0 := hok.1.src0
  have d0 := hok.1.dst0
  have d1 := hok.2.2
  have hl := h.len
  have hR : earr c (gi m c.src) n ≠ -1 → RK cons n src t0 (k + 1) c.dst (earr c (gi m c.src) n) := fun he => by
    rcases hm.snd c.src s0 hok.2.1 with e | e
    · omega
    · exact .step e hc rfl he
  have hpos : earr c (gi m c.src) n ≠ -1 → 0 ≤ earr c (gi m c.src) n := fun he => by
    rcases earr_cases (t := gi m c.src) hok.1 ⟨J.n1, J.n2⟩ with g | ⟨g1, g2, g3, g4, g5, g6⟩
    · exact absurd g.1 he
    · omega
  refine ⟨by rw [relax_len]; exact hl, fun i i0 i1 => ?_, fun i i0 i1 hi => ?_, fun x hx hd hx0 hxe => ?_⟩
  · rcases relax_gi (a := earr c (gi m c.src) n) d0 (by omega : c.dst < out.length) i0 with ⟨e, _⟩ | ⟨rfl, e, he, _⟩
    · rw [e]; exact h.snd i i0 i1
    · rw [e]; exact .inr (hR he)
  · have h1 := h.le i i0 i1 hi
    rcases relax_gi (a := earr c (gi m c.src) n) d0 (by omega : c.dst < out.length) i0 with ⟨e, _⟩ | ⟨rfl, e, he, h2⟩
    · rw [e]; exact h1
    · rw [e]; have := hpos he; omega
  · have x0 := (J.con x hx).1.dst0
    rcases relax_gi (a := earr c (gi m c.src) n) d0 (by omega : c.dst < out.length) x0 with ⟨e, h2⟩ | ⟨hxd, e, he, h2⟩
    · rcases hd with hd | rfl
      · rw [e]; exact h.rel x hx hd hx0 hxe
      · have h9 := h2 rfl
        rw [e]
        rcases h.snd x.dst d0 d1 with g | g
        · exact absurd ⟨hxe, .inl (by omega)⟩ h9
        · have g2 := RK.rng J g
          have := J.r0
          refine ⟨by omega, ?_⟩
          apply Classical.byContradiction
          intro hh
          exact h9 ⟨hxe, .inr (by omega)⟩
    · rcases hd with hd | rfl
      · have := h.rel x hx hd hx0 hxe
        rw [e]
        rw [hxd] at this
        have := hpos he
        omega
      · rw [e]; exact ⟨hpos he, Int.le_refl _⟩
theorem RI.step (J : JC N cons n src t0) {k : Nat} {m out : List Int} {D : Con → Prop} (hm : Least N (RK cons n src t0 k) m) (h : RI N cons n src t0 k m out D) {c : Con} (hc : c ∈ cons) :
    RI N cons n src t0 k m (rstep n m out c) (fun x => D x ∨ x = c) := by
  unfold rstep
  split
  · rename_i h0; exact h.relax J hm hc h0
  · rename_i h0
    refine h.weak fun x _ hd hx _ => ?_
    rcases hd with hd | rfl
    · exact hd
    · exact absurd hx h0
theorem RI.done (J : JC N cons n src t0) {k : Nat} {m out : List Int} {D : Con → Prop} (hm : Least N (RK cons n src t0 k) m) (h : RI N cons n src t0 k m out D)
    (hD : ∀ c ∈ cons, 0 ≤ gi m c.src → earr c (gi m c.src) n ≠ -1 → D c) : Least N (RK cons n src t0 (k + 1)) out := by
  refine ⟨h.len, h.snd, fun i t hi => ?_⟩
  cases hi with
  | start =>
    have h1 := hm.best src t0 (.start k)
    have h2 := h.le src J.s0 J.s1 h1.1
    omega
  | step hr hc hi he =>
    rename_i i t c
    subst hi
    have h1 := hm.best _ _ hr
    have h2 := earr_mono (J.con c hc).1 h1.2 J.n1 (Int.le_refl n) J.n2 he
    have h3 := h.rel c hc (hD c hc h1.1 h2.1) h1.1 h2.1
    omega
theorem rfold_ri (J : JC N cons n src t0) {k : Nat} {m : List Int} (hm : Least N (RK cons n src t0 k) m) : ∀ (l : List Con) (out : List Int) (D : Con → Prop), (∀ c ∈ l, c ∈ cons) → RI N cons n src t0 k m out D → RI N cons n src t0 k m (l.foldl (rstep n m) out) (fun x => D x ∨ x ∈ l)
  | [], out, D, _, h => h.weak fun x _ hd _ _ => by simpa using hd
  | c :: l, out, D, hl, h => by
    simp only [List.foldl_cons]
    refine (rfold_ri J hm l _ _ (fun x hx => hl x (by simp [hx])) (h.step J hm (hl c (by simp)))).weak fun x _ hd _ _ => ?_
    rcases hd with hd | hd
    · exact .inl (.inl hd)
    · rcases List.mem_cons.1 hd with rfl | hd
      · exact .inl (.inr rfl)
      · exact .inr hd
theorem rnd_least (J : JC N cons n src t0) {k : Nat} {m : List Int} (hm : Least N (RK cons n src t0 k) m) : Least N (RK cons n src t0 (k + 1)) (rnd cons n m) :=
  (rfold_ri J hm cons m _ (fun _ h => h) (RI.init hm)).done J hm fun c hc _ _ => .inr hc
theorem rnds_least (J : JC N cons n src t0) : ∀ k, Least N (RK cons n src t0 k) (rnds cons n (lstart N src t0) k)
  | 0 => lstart_least J
  | k + 1 => rnd_least J (rnds_least J k)

/-- Where one can be at all. -/
def RA (cons : List Con) (n src t0 : Int) (i t : Int) : Prop := ∃ k, RK cons n src t0 k i t
theorem RA.rng (J : JC N cons n src t0) {i t : Int} (h : RA cons n src t0 i t) : 0 ≤ i ∧ i < N ∧ t0 ≤ t ∧ t ≤ 1099511627776 := by
  obtain ⟨k, h⟩ := h; exact h.rng J
theorem RA.start : RA cons n src t0 src t0 := ⟨0, .start 0⟩
theorem RA.step {i t : Int} {c : Con} (h : RA cons n src t0 i t) (hc : c ∈ cons) (hi : c.src = i) (he : earr c t n ≠ -1) : RA cons n src t0 c.dst (earr c t n) := by
  obtain ⟨k, h⟩ := h; exact ⟨k + 1, .step h hc hi he⟩
theorem Least.srcT {m : List Int} (J : JC N cons n src t0) (h : Least N (RA cons n src t0) m) : gi m src = t0 := by
  have h1 := h.best _ _ RA.start
  rcases h.snd src J.s0 J.s1 with e | e
  · omega
  · have := RA.rng J e; omega
theorem Least.edge {m : List Int} (J : JC N cons n src t0) (h : Least N (RA cons n src t0) m) {c : Con} (hc : c ∈ cons) (h0 : 0 ≤ gi m c.src) (he : earr c (gi m c.src) n ≠ -1) : 0 ≤ gi m c.dst ∧ gi m c.dst ≤ earr c (gi m c.src) n := by
  have hok := J.con c hc
  rcases h.snd c.src hok.1.src0 hok.2.1 with e | e
  · omega
  · exact h.best _ _ (e.step hc rfl he)
/-- Where a least time comes from. -/
theorem Least.sup {m : List Int} (J : JC N cons n src t0) (h : Least N (RA cons n src t0) m) {i : Int} (h0 : 0 ≤ gi m i) (hi : 0 ≤ i) (hN : i < N) :
    (i = src ∧ gi m i = t0) ∨ ∃ c ∈ cons, c.dst = i ∧ 0 ≤ gi m c.src ∧ earr c (gi m c.src) n = gi m i ∧ gi m c.src < gi m i := by
  rcases h.snd i hi hN with e | e
  · omega
  · obtain ⟨k, e⟩ := e
    generalize hg : gi m i = g at *
    cases e with
    | start => exact .inl ⟨rfl, rfl⟩
    | step hr hcm hsr he =>
      rename_i j t c
      subst hsr
      right
      have h1 := h.best _ _ ⟨_, hr⟩
      have hok := (J.con c hcm).1
      have h2 := earr_mono hok h1.2 J.n1 (Int.le_refl n) J.n2 he
      have h3 := h.edge J hcm h1.1 h2.1
      refine ⟨c, hcm, rfl, h1.1, by omega, ?_⟩
      rcases earr_cases (t := gi m c.src) hok ⟨J.n1, J.n2⟩ with g | ⟨g1, g2, g3, g4, g5, g6⟩
      · exact absurd g.1 h2.1
      · omega

def rank (m : List Int) (v : Int) : Nat := m.countP fun x => decide (0 ≤ x ∧ x < v)
theorem rank_lt : ∀ {m : List Int} {u v : Int}, u ∈ m → 0 ≤ u → u < v → rank m u < rank m v
  | [], _, _, h, _, _ => by simp at h
  | x :: m, u, v, h, h0, h1 => by
    have le : ∀ l : List Int, rank l u ≤ rank l v := fun l => by
      unfold rank
      apply List.countP_mono_left
      intro x _ hx
      simp only [decide_eq_true_eq] at hx ⊢
      omega
    unfold rank at le ⊢
    rw [List.countP_cons, List.countP_cons]
    rcases List.mem_cons.1 h with rfl | h
    · have := le m
      rw [if_neg (by simp), if_pos (by simp; omega)]
      omega
    · have := rank_lt h h0 h1
      unfold rank at this
      have hx : (if decide (0 ≤ x ∧ x < u) = true then 1 else 0) ≤ (if decide (0 ≤ x ∧ x < v) = true then 1 else 0) := by
        by_cases h2 : 0 ≤ x ∧ x < u
        · rw [if_pos (by simpa using h2), if_pos (by simp; omega)]; omega
        · rw [if_neg (by simpa using h2)]; omega
      omega
theorem rank_bd {m : List Int} {v : Int} (h : v ∈ m) : rank m v < m.length := by
  unfold rank
  have h1 : m.countP (fun x => decide (0 ≤ x ∧ x < v)) ≤ m.length := List.countP_le_length
  apply Nat.lt_of_le_of_ne h1
  intro e
  have := List.countP_eq_length.1 e v h
  simp at this
theorem rnds_hit (J : JC N cons n src t0) {m : List Int} (hm : Least N (RA cons n src t0) m) : ∀ (k : Nat) (i : Int), 0 ≤ i → i < N → 0 ≤ gi m i → rank m (gi m i) ≤ k → gi (rnds cons n (lstart N src t0) k) i = gi m i := by
  intro k
  induction k with
  | zero =>
    intro i h0 h1 hg hr
    have hl := rnds_least J 0
    rcases hm.sup J hg h0 h1 with ⟨rfl, e⟩ | ⟨c, hc, e1, e2, e3, e4⟩
    · have := hl.best _ _ (.start 0)
      rcases hl.snd i h0 h1 with g | g
      · omega
      · have := hm.best _ _ ⟨_, g⟩; omega
    · have := rank_lt (m := m) (gi_mem (by have := (J.con c hc).1.src0; have := (J.con c hc).2.1; have := hm.len; omega)) e2 e4
      omega
  | succ k ih =>
    intro i h0 h1 hg hr
    have hl := rnds_least J (k + 1)
    have hle : 0 ≤ gi (rnds cons n (lstart N src t0) (k + 1)) i ∧ gi (rnds cons n (lstart N src t0) (k + 1)) i ≤ gi m i := by
      rcases hm.sup J hg h0 h1 with ⟨rfl, e⟩ | ⟨c, hc, e1, e2, e3, e4⟩
      · rw [e]; exact hl.best _ _ (.start _)
      · have s0 := (J.con c hc).1.src0
        have s1 := (J.con c hc).2.1
        have := rank_lt (m := m) (gi_mem (i := c.src) (by have := hm.len; omega)) e2 e4
        have h2 := ih c.src s0 s1 e2 (by omega)
        rcases (rnds_least J k).snd c.src s0 s1 with g | g
        · omega
        · rw [h2] at g
          have := hl.best _ _ (.step g hc rfl (by omega))
          rw [e1, e3] at this
          exact this
    rcases hl.snd i h0 h1 with g | g
    · omega
    · have := hm.best _ _ ⟨_, g⟩; omega
/-- As many rounds as nodes suffice; one less does, too. -/
theorem rnds_all (J : JC N cons n src t0) {k : Nat} (hk : N ≤ k + 1) : Least N (RA cons n src t0) (rnds cons n (lstart N src t0) k) := by
  obtain ⟨m, hm⟩ := Least.exists (N := N) (R := RA cons n src t0) (fun i t h => by have := RA.rng J h; have := J.r0; omega)
  have e : rnds cons n (lstart N src t0) k = m := by
    have hl := rnds_least J k
    apply gi_ext (hl.len.trans hm.len.symm)
    intro i h0 h1
    have hN : i < N := by have := hl.len; omega
    rcases hm.snd i h0 hN with g | g
    · rcases hl.snd i h0 hN with g' | g'
      · omega
      · have := hm.best _ _ ⟨_, g'⟩; omega
    · have h2 := hm.best _ _ g
      have := rank_bd (m := m) (gi_mem (i := i) (by have := hm.len; omega))
      exact rnds_hit J hm k i h0 hN h2.1 (by have := hm.len; omega)
  rw [e]; exact hm
end

def Pln.arrs (p : Pln) (src t0 n : Int) : List Int := rnds p.cons n (lstart p.quo.length src t0) p.quo.length
def Pln.argF (p : Pln) (src t0 n : Int) : Bool := decide (0 ≤ src ∧ src < p.quo.length ∧ 0 ≤ t0 ∧ t0 ≤ 1099511627776 ∧ 1 ≤ n ∧ n ≤ 65536)
theorem Pln.jc {p : Pln} {src t0 n : Int} (h : p.Ok) (ha : p.argF src t0 n = true) : JC p.quo.length p.cons n src t0 := by
  simp only [Pln.argF, decide_eq_true_eq] at ha
  exact ⟨h.con, ha.2.2.2.2.1, ha.2.2.2.2.2, ha.1, ha.2.1, ha.2.2.1, ha.2.2.2.1⟩
theorem Pln.arrs_least {p : Pln} {src t0 n : Int} (h : p.Ok) (ha : p.argF src t0 n = true) : Least p.quo.length (RA p.cons n src t0) (p.arrs src t0 n) :=
  rnds_all (Pln.jc h ha) (by omega)
def Pln.forE (p : Pln) (src t0 n : Int) : Int := if p.chk = 0 then (if p.argF src t0 n then 0 else 2) else 1
def Pln.forT (p : Pln) (src t0 n : Int) : List Int := if p.forE src t0 n = 0 then p.arrs src t0 n else []

/-- The times and the nodes that were left, while the node x is left over the contacts D. -/
def gb (l : List Bool) (i : Int) : Bool := l.getD i.toNat false
theorem gb_set {l : List Bool} {i j : Int} {v : Bool} (hi : i.toNat < l.length) : gb (l.set i.toNat v) j = if j.toNat = i.toNat then v else gb l j := by
  unfold gb
  simp only [List.getD_eq_getElem?_getD]
  by_cases h : j.toNat = i.toNat
  · rw [if_pos h, h, List.getElem?_set_self hi]; rfl
  · rw [if_neg h, List.getElem?_set_ne (by omega)]
theorem gb_of {l : List Bool} {i : Int} (h : i.toNat < l.length) : gb l i = l[i.toNat] := by simp [gb, h]
theorem gb_get {l : List Bool} {k : Nat} (h : k < l.length) : gb l (k : Int) = l[k] := by simp [gb, h]
structure DI (N : Nat) (cons : List Con) (n src t0 : Int) (m : List Int) (lf : List Bool) (cur x : Int) (D : Con → Prop) : Prop where
  len : m.length = N
  lfl : lf.length = N
  snd : ∀ i : Int, 0 ≤ i → i < N → gi m i = -1 ∨ RA cons n src t0 i (gi m i)
  src : 0 ≤ gi m src ∧ gi m src ≤ t0
  lo : ∀ i : Int, 0 ≤ i → i < N → gb lf i = true → 0 ≤ gi m i ∧ gi m i ≤ cur
  hi : ∀ i : Int, 0 ≤ i → i < N → gb lf i = false → 0 ≤ gi m i → cur ≤ gi m i
  cl : ∀ c ∈ cons, gb lf c.src = true → (c.src = x → D c) → earr c (gi m c.src) n ≠ -1 → 0 ≤ gi m c.dst ∧ gi m c.dst ≤ earr c (gi m c.src) n
section
variable {N : Nat} {cons : List Con} {n src t0 : Int} {m : List Int} {lf : List Bool} {cur x : Int} {D : Con → Prop}
theorem DI.init (J : JC N cons n src t0) : DI N cons n src t0 (lstart N src t0) (List.replicate N false) 0 (-1) (fun _ => True) := by
  have h := lstart_least J
  have hf : ∀ i : Int, gb (List.replicate N false) i = false := fun i => by
    unfold gb
    rw [List.getD_eq_getElem?_getD]
    cases h : (List.replicate N false)[i.toNat]? with
    | none => rfl
    | some v => have := List.mem_of_getElem? h; rw [List.eq_of_mem_replicate this]; rfl
  refine ⟨h.len, by simp, fun i h0 h1 => (h.snd i h0 h1).imp id fun e => ⟨_, e⟩, h.best _ _ (.start 0), fun i _ _ e => ?_, fun i _ _ _ e => e, fun c _ e => ?_⟩
  · rw [hf] at e; cases e
  · rw [hf] at e; cases e
theorem DI.take (h : DI N cons n src t0 m lf cur (-1) D) {b : Int} (b0 : 0 ≤ b) (b1 : b < N) (hb : 0 ≤ gi m b) (hl : gb lf b = false) (hmin : ∀ i : Int, 0 ≤ i → i < N → gb lf i = false → 0 ≤ gi m i → gi m b ≤ gi m i)
    (hc0 : ∀ c ∈ cons, 0 ≤ c.src) : DI N cons n src t0 m (lf.set b.toNat true) (gi m b) b (fun _ => False) := by
  have hlen := h.lfl
  have hk : b.toNat < lf.length := by omega
  have hcur := h.hi b b0 b1 hl hb
  refine ⟨h.len, by rw [List.length_set]; exact hlen, h.snd, h.src, fun i i0 i1 e => ?_, fun i i0 i1 e hi => ?_, fun c hc e hx he => ?_⟩
  · rw [gb_set hk] at e
    split at e
    · rename_i hh; have : i = b := by omega
      rw [this]; exact ⟨hb, Int.le_refl _⟩
    · have := h.lo i i0 i1 e; omega
  · rw [gb_set hk] at e
    split at e
    · cases e
    · exact hmin i i0 i1 e hi
  · rw [gb_set hk] at e
    have := hc0 c hc
    split at e
    · exact (hx (by omega)).elim
    · exact h.cl c hc e (fun e' => by omega) he
theorem DI.relax (J : JC N cons n src t0) (h : DI N cons n src t0 m lf cur x D) (hx : gb lf x = true) (hcur : gi m x = cur) {c : Con} (hc : c ∈ cons) (hcx : c.src = x) :
    DI N cons n src t0 (relax m c.dst (earr c cur n)) lf cur x (fun y => D y ∨ y = c) ∧ gi (relax m c.dst (earr c cur n)) x = cur := by
  have hok := J.con c hc
  have s0 := hok.1.src0
  have s1 := hok.2.1
  have d0 := hok.1.dst0
  have d1 := hok.2.2
  have hl := h.len
  have hx0 : 0 ≤ gi m x ∧ gi m x ≤ cur := h.lo x (by omega) (by omega) hx
  have hR : earr c cur n ≠ -1 → RA cons n src t0 c.dst (earr c cur n) := fun he => by
    rcases h.snd x (by omega) (by omega) with e | e
    · omega
    · rw [hcur] at e; exact e.step hc hcx he
  have hpos : earr c cur n ≠ -1 → cur < earr c cur n := fun he => by
    rcases earr_cases (t := cur) hok.1 ⟨J.n1, J.n2⟩ with g | ⟨g1, g2, g3, g4, g5, g6⟩
    · exact absurd g.1 he
    · omega
  have hleft : ∀ i : Int, 0 ≤ i → i < N → gb lf i = true → gi (Go.Proofs.YtmaengcmhopmbaaGreat.relax m c.dst (earr c cur n)) i = gi m i := fun i i0 i1 e => by
    rcases relax_gi (a := earr c cur n) d0 (by omega : c.dst < m.length) i0 with ⟨e', _⟩ | ⟨rfl, e', he, h2⟩
    · exact e'
    · have := h.lo _ i0 i1 e
      have := hpos he
      omega
  have hdn : ∀ i : Int, 0 ≤ i → 0 ≤ gi m i → 0 ≤ gi (Go.Proofs.YtmaengcmhopmbaaGreat.relax m c.dst (earr c cur n)) i ∧ gi (Go.Proofs.YtmaengcmhopmbaaGreat.relax m c.dst (earr c cur n)) i ≤ gi m i := fun i i0 e => by
    rcases relax_gi (a := earr c cur n) d0 (by omega : c.dst < m.length) i0 with ⟨e', _⟩ | ⟨rfl, e', he, h2⟩
    · rw [e']; exact ⟨e, Int.le_refl _⟩
    · rw [e']; have := hpos he; omega
  refine ⟨⟨by rw [relax_len]; exact hl, h.lfl, fun i i0 i1 => ?_, ?_, fun i i0 i1 e => ?_, fun i i0 i1 e hi => ?_, fun y hy e hyx he => ?_⟩, ?_⟩
  · rcases relax_gi (a := earr c cur n) d0 (by omega : c.dst < m.length) i0 with ⟨e', _⟩ | ⟨rfl, e', he, h2⟩
    · rw [e']; exact h.snd i i0 i1
    · rw [e']; exact .inr (hR he)
  · have h1 := hdn src J.s0 h.src.1
    have := h.src.2
    omega
  · rw [hleft i i0 i1 e]; exact h.lo i i0 i1 e
  · rcases relax_gi (a := earr c cur n) d0 (by omega : c.dst < m.length) i0 with ⟨e', _⟩ | ⟨rfl, e', he, h2⟩
    · rw [e'] at hi ⊢; exact h.hi i i0 i1 e hi
    · rw [e']; have := hpos he; omega
  · have hyok := J.con y hy
    rw [hleft y.src hyok.1.src0 hyok.2.1 e] at he ⊢
    by_cases hyc : y.src = x ∧ y = c
    · obtain ⟨h1, rfl⟩ := hyc
      rw [h1, hcur] at he ⊢
      rcases relax_gi (a := earr y cur n) d0 (by omega : y.dst < m.length) d0 with ⟨e', h2⟩ | ⟨_, e', he', h2⟩
      · have h3 := h2 rfl
        rw [e']
        rcases h.snd y.dst d0 d1 with g | g
        · exact absurd ⟨he, .inl (by omega)⟩ h3
        · have g2 := RA.rng J g
          have := J.r0
          refine ⟨by omega, ?_⟩
          apply Classical.byContradiction
          intro hh
          exact h3 ⟨he, .inr (by omega)⟩
      · rw [e']; have := hpos he; omega
    · have h1 := h.cl y hy e (fun e' => by
        rcases hyx e' with g | g
        · exact g
        · exact absurd ⟨e', g⟩ hyc) he
      have h2 := hdn y.dst hyok.1.dst0 h1.1
      omega
  · rw [hleft x (by omega) (by omega) hx]; exact hcur
theorem DI.close (h : DI N cons n src t0 m lf cur x D) (hD : ∀ c ∈ cons, c.src = x → earr c (gi m x) n ≠ -1 → D c) (D' : Con → Prop) : DI N cons n src t0 m lf cur (-1) D' :=
  ⟨h.len, h.lfl, h.snd, h.src, h.lo, h.hi, fun c hc e _ he => h.cl c hc e (fun e' => hD c hc e' (by rw [← e']; exact he)) he⟩
theorem DI.weak {D' : Con → Prop} (h : DI N cons n src t0 m lf cur x D) (hD : ∀ c ∈ cons, c.src = x → D' c → D c) : DI N cons n src t0 m lf cur x D' :=
  ⟨h.len, h.lfl, h.snd, h.src, h.lo, h.hi, fun c hc e hd he => h.cl c hc e (fun e' => hD c hc e' (hd e')) he⟩
theorem DI.done (J : JC N cons n src t0) (h : DI N cons n src t0 m lf cur (-1) D) (hno : ∀ i : Int, 0 ≤ i → i < N → 0 ≤ gi m i → gb lf i = true) : Least N (RA cons n src t0) m := by
  refine ⟨h.len, h.snd, ?_⟩
  rintro i t ⟨k, hk⟩
  induction hk with
  | start => exact h.src
  | step hr hc hi he ih =>
    rename_i k i t c
    subst hi
    have hok := J.con c hc
    have h1 := hno c.src hok.1.src0 hok.2.1 ih.1
    have h2 := earr_mono hok.1 ih.2 J.n1 (Int.le_refl n) J.n2 he
    have h3 := h.cl c hc h1 (fun e => by have := hok.1.src0; omega) h2.1
    omega
end
theorem Pln.arrs_eq {p : Pln} {src t0 n : Int} (h : p.Ok) (ha : p.argF src t0 n = true) {m : List Int} (hm : Least p.quo.length (RA p.cons n src t0) m) : m = p.arrs src t0 n :=
  hm.unique (Pln.arrs_least h ha)

end Go.Proofs.YtmaengcmhopmbaaGreat

/- Layer 24 (journey): journeys as plain data. -/
namespace Go.Proofs.YtmaengcmhopmbaaGreat
set_option linter.unusedVariables false
open Go.RowKit

/-- The hop over the contact i that begins as early as possible. -/
def hopAt (i : Nat) (c : Con) (t n : Int) : Hp := ⟨i, c.beg t, c.beg t + c.dur n, c.beg t + c.dur n + c.rng⟩
def hopR (i : Nat) (c : Con) (t n : Int) : Hp := if earr c t n = -1 then ⟨0, 0, 0, 0⟩ else hopAt i c t n
theorem hopAt_arr {i : Nat} {c : Con} {t n : Int} (he : earr c t n ≠ -1) : (hopAt i c t n).arr = earr c t n := by
  unfold earr at he ⊢
  split
  · rfl
  · rename_i h; rw [if_neg h] at he; exact absurd rfl he

/-- A contact that leads to a node at a time. -/
def cand (f : List Int) (n node time : Int) (c : Con) : Bool := decide (c.dst = node ∧ 0 ≤ gi f c.src ∧ earr c (gi f c.src) n ≠ -1 ∧ earr c (gi f c.src) n = time)
def better (f : List Int) (c : Con) : Option (Nat × Con) → Bool
  | none => true
  | some d => decide (gi f c.src < gi f d.2.src)
def bstep (f : List Int) (n node time : Int) (i : Nat) (c : Con) (b : Option (Nat × Con)) : Option (Nat × Con) := if cand f n node time c && better f c b then some (i, c) else b
def bestC (f : List Int) (n node time : Int) : Nat → List Con → Option (Nat × Con) → Option (Nat × Con)
  | _, [], b => b
  | i, c :: l, b => bestC f n node time (i + 1) l (bstep f n node time i c b)
def lastC (f : List Int) (n node time : Int) (cons : List Con) : Option (Nat × Con) := bestC f n node time 0 cons none
theorem bestC_drop {f : List Int} {n node time : Int} {l : List Con} {k : Nat} {y : Con} {b : Option (Nat × Con)} (h : k < l.length) (hy : l[k] = y) :
    bestC f n node time k (l.drop k) b = bestC f n node time (k + 1) (l.drop (k + 1)) (bstep f n node time k y b) := by
  rw [List.drop_eq_getElem_cons h, hy]; rfl
theorem bestC_some {f : List Int} {n node time : Int} {cons : List Con} : ∀ (l : List Con) (k : Nat) (b : Option (Nat × Con)), l = cons.drop k → (∀ i c, b = some (i, c) → cons[i]? = some c ∧ cand f n node time c = true) →
    ∀ i c, bestC f n node time k l b = some (i, c) → cons[i]? = some c ∧ cand f n node time c = true
  | [], _, _, _, hb, i, c, h => hb i c h
  | x :: l, k, b, hl, hb, i, c, h => by
    simp only [bestC] at h
    have hk : k < cons.length := by
      apply Classical.byContradiction
      intro hh
      rw [List.drop_eq_nil_of_le (by omega)] at hl
      cases hl
    rw [List.drop_eq_getElem_cons hk] at hl
    injection hl with h1 h2
    refine bestC_some l (k + 1) _ h2 (fun j d hj => ?_) i c h
    unfold bstep at hj
    split at hj
    · rename_i hc
      injection hj with hj
      injection hj with hj1 hj2
      subst hj1 hj2
      simp only [Bool.and_eq_true] at hc
      exact ⟨by rw [List.getElem?_eq_getElem hk, h1], hc.1⟩
    · exact hb j d hj
theorem bestC_keep {f : List Int} {n node time : Int} : ∀ (l : List Con) (k : Nat) (b : Option (Nat × Con)), bestC f n node time k l b = none → b = none ∧ ∀ c ∈ l, cand f n node time c = false
  | [], _, _, h => ⟨h, by simp⟩
  | x :: l, k, b, h => by
    simp only [bestC] at h
    have h1 := bestC_keep l (k + 1) _ h
    unfold bstep at h1
    cases b with
    | none =>
      refine ⟨rfl, fun c hc => ?_⟩
      rcases List.mem_cons.1 hc with rfl | hc
      · have h2 := h1.1
        cases hx : cand f n node time c
        · rfl
        · rw [hx] at h2; cases h2
      · exact h1.2 c hc
    | some d =>
      have h2 := h1.1
      split at h2 <;> cases h2
theorem lastC_spec {f : List Int} {n node time : Int} {cons : List Con} {i : Nat} {c : Con} (h : lastC f n node time cons = some (i, c)) : cons[i]? = some c ∧ c ∈ cons ∧ c.dst = node ∧ 0 ≤ gi f c.src ∧ earr c (gi f c.src) n ≠ -1 ∧ earr c (gi f c.src) n = time := by
  have h1 := bestC_some cons 0 none rfl (fun i c h => by cases h) i c h
  have h2 := h1.2
  simp only [cand, decide_eq_true_eq] at h2
  exact ⟨h1.1, List.mem_of_getElem? h1.1, h2⟩
theorem lastC_ex {f : List Int} {n node time : Int} {cons : List Con} {c : Con} (hc : c ∈ cons) (h : cand f n node time c = true) : ∃ i d, lastC f n node time cons = some (i, d) := by
  cases hl : lastC f n node time cons with
  | some x => exact ⟨x.1, x.2, rfl⟩
  | none =>
    have := (bestC_keep cons 0 none hl).2 c hc
    rw [this] at h; cases h

/-- A foremost journey, from its end to its begin. -/
inductive JP (cons : List Con) (f : List Int) (n src : Int) : Int → List Hp → Prop where
  | done : JP cons f n src src []
  | step {a : Int} {i : Nat} {c : Con} {l : List Hp} : a ≠ src → lastC f n a (gi f a) cons = some (i, c) → JP cons f n src c.src l → JP cons f n src a (hopAt i c (gi f c.src) n :: l)
theorem JP.unique {cons : List Con} {f : List Int} {n src a : Int} {l l' : List Hp} (h : JP cons f n src a l) : JP cons f n src a l' → l = l' := by
  induction h generalizing l' with
  | done =>
    intro h
    cases h with
    | done => rfl
    | step h1 => exact absurd rfl h1
  | step h1 h2 _ ih =>
    intro h
    cases h with
    | done => exact absurd rfl h1
    | step g1 g2 g3 =>
      rw [h2] at g2
      injection g2 with g2
      injection g2 with e1 e2
      subst e1 e2
      rw [ih g3]
theorem JP.split {cons : List Con} {f : List Int} {n src a : Int} {l : List Hp} (h : JP cons f n src a l) (ha : a ≠ src) : ∃ i c l', lastC f n a (gi f a) cons = some (i, c) ∧ l = hopAt i c (gi f c.src) n :: l' := by
  cases h with
  | done => exact absurd rfl ha
  | step h1 h2 h3 => exact ⟨_, _, _, h2, rfl⟩
section
variable {N : Nat} {cons : List Con} {n src t0 : Int} {m : List Int}
theorem JP.found (J : JC N cons n src t0) (h : Least N (RA cons n src t0) m) {a : Int} (h0 : 0 ≤ a) (hN : a < N) (hne : a ≠ src) (hg : 0 ≤ gi m a) : ∃ i c, lastC m n a (gi m a) cons = some (i, c) := by
  rcases h.sup J hg h0 hN with ⟨e, _⟩ | ⟨c, hc, e1, e2, e3, e4⟩
  · exact absurd e hne
  · exact lastC_ex hc (by simp only [cand, decide_eq_true_eq]; exact ⟨e1, e2, by omega, e3⟩)
theorem lastC_lt (J : JC N cons n src t0) {f : List Int} {a time : Int} {i : Nat} {c : Con} (h : lastC f n a time cons = some (i, c)) : 0 ≤ c.src ∧ c.src < N ∧ 0 ≤ gi f c.src ∧ gi f c.src + 2 ≤ time := by
  have h1 := lastC_spec h
  have hok := J.con c h1.2.1
  rcases earr_cases (t := gi f c.src) hok.1 ⟨J.n1, J.n2⟩ with g | ⟨g1, g2, g3, g4, g5, g6⟩
  · exact absurd g.1 h1.2.2.2.2.1
  · exact ⟨hok.1.src0, hok.2.1, h1.2.2.2.1, by omega⟩
/-- A foremost journey is one. -/
theorem JP.reach {f : List Int} (J : JC N cons n src t0) {a : Int} {l : List Hp} (h : JP cons f n src a l) (hs : gi f src = t0) : RK cons n src t0 l.length a (gi f a) := by
  induction h with
  | done => rw [hs]; exact .start 0
  | step h1 h2 _ ih =>
    have h3 := lastC_spec h2
    have := RK.step ih h3.2.1 rfl h3.2.2.2.2.1
    rw [h3.2.2.1, h3.2.2.2.2.2] at this
    exact this
end

/-- A journey with k hops out of the rounds, from its end to its begin. -/
inductive FP (cons : List Con) (R : Nat → List Int) (n : Int) : Nat → Int → List Hp → Prop where
  | done {a : Int} : FP cons R n 0 a []
  | step {k : Nat} {a : Int} {i : Nat} {c : Con} {l : List Hp} : lastC (R k) n a (gi (R (k + 1)) a) cons = some (i, c) → FP cons R n k c.src l → FP cons R n (k + 1) a (hopAt i c (gi (R k) c.src) n :: l)
theorem FP.unique {cons : List Con} {R : Nat → List Int} {n : Int} : ∀ {k : Nat} {a : Int} {l l' : List Hp}, FP cons R n k a l → FP cons R n k a l' → l = l'
  | 0, _, _, _, .done, .done => rfl
  | k + 1, _, _, _, .step h1 h2, .step g1 g2 => by
    rw [h1] at g1
    injection g1 with g1
    injection g1 with e1 e2
    subst e1 e2
    rw [FP.unique h2 g2]
theorem FP.len {cons : List Con} {R : Nat → List Int} {n : Int} : ∀ {k : Nat} {a : Int} {l : List Hp}, FP cons R n k a l → l.length = k
  | 0, _, _, .done => rfl
  | k + 1, _, _, .step _ h => by rw [List.length_cons, FP.len h]

section
variable {N : Nat} {cons : List Con} {n src t0 : Int}
def Rr (N : Nat) (cons : List Con) (n src t0 : Int) (k : Nat) : List Int := rnds cons n (lstart N src t0) k
theorem Rr.least (J : JC N cons n src t0) (k : Nat) : Least N (RK cons n src t0 k) (Rr N cons n src t0 k) := rnds_least J k
theorem Rr.down (J : JC N cons n src t0) {j k : Nat} (h : j ≤ k) {a : Int} (h0 : 0 ≤ a) (hN : a < N) (hg : 0 ≤ gi (Rr N cons n src t0 j) a) : 0 ≤ gi (Rr N cons n src t0 k) a ∧ gi (Rr N cons n src t0 k) a ≤ gi (Rr N cons n src t0 j) a := by
  rcases (Rr.least J j).snd a h0 hN with e | e
  · omega
  · have := e.more (k - j)
    rw [show j + (k - j) = k by omega] at this
    exact (Rr.least J k).best _ _ this
/-- The node a is reached in round k, earlier than before. -/
def FS (N : Nat) (cons : List Con) (n src t0 : Int) (k : Nat) (a : Int) : Prop :=
  0 ≤ a ∧ a < N ∧ 0 ≤ gi (Rr N cons n src t0 k) a ∧ ∀ j, j + 1 = k → gi (Rr N cons n src t0 j) a = -1 ∨ gi (Rr N cons n src t0 k) a < gi (Rr N cons n src t0 j) a
theorem FS.zero (J : JC N cons n src t0) {a : Int} (h : FS N cons n src t0 0 a) : a = src ∧ gi (Rr N cons n src t0 0) a = t0 := by
  rcases (Rr.least J 0).snd a h.1 h.2.1 with e | e
  · have := h.2.2.1; omega
  · exact e.zero
theorem FS.found (J : JC N cons n src t0) {k : Nat} {a : Int} (h : FS N cons n src t0 (k + 1) a) : ∃ i c, lastC (Rr N cons n src t0 k) n a (gi (Rr N cons n src t0 (k + 1)) a) cons = some (i, c) := by
  obtain ⟨h0, hN, hg, hs⟩ := h
  have hk := Rr.least J k
  rcases (Rr.least J (k + 1)).snd a h0 hN with e | e
  · omega
  · generalize hT : gi (Rr N cons n src t0 (k + 1)) a = T at *
    cases e with
    | start =>
      have := hk.best _ _ (.start k)
      have := hs k rfl
      omega
    | step hr hcm hsr he =>
      rename_i j t c
      subst hsr
      have h1 := hk.best _ _ hr
      have h2 := earr_mono (J.con c hcm).1 h1.2 J.n1 (Int.le_refl n) J.n2 he
      rcases hk.snd c.src (J.con c hcm).1.src0 (J.con c hcm).2.1 with g | g
      · omega
      · have h3 := (Rr.least J (k + 1)).best _ _ (.step g hcm rfl h2.1)
        exact lastC_ex hcm (by simp only [cand, decide_eq_true_eq]; exact ⟨by trivial, h1.1, h2.1, by omega⟩)
theorem FS.prev (J : JC N cons n src t0) {k : Nat} {a : Int} (h : FS N cons n src t0 (k + 1) a) {i : Nat} {c : Con} (hl : lastC (Rr N cons n src t0 k) n a (gi (Rr N cons n src t0 (k + 1)) a) cons = some (i, c)) : FS N cons n src t0 k c.src := by
  have h1 := lastC_spec hl
  have hok := J.con c h1.2.1
  refine ⟨hok.1.src0, hok.2.1, h1.2.2.2.1, fun j hj => ?_⟩
  subst hj
  have hj := Rr.least J j
  rcases hj.snd c.src hok.1.src0 hok.2.1 with g | g
  · exact .inl g
  · right
    apply Classical.byContradiction
    intro hh
    have h2 := hj.best _ _ g
    have h3 := Rr.down J (show j ≤ j + 1 by omega) hok.1.src0 hok.2.1 h2.1
    have e : gi (Rr N cons n src t0 (j + 1)) c.src = gi (Rr N cons n src t0 j) c.src := by omega
    have h5 := h1.2.2.2.2
    rw [e] at h5
    have h6 := (Rr.least J (j + 1)).best _ _ (.step g h1.2.1 rfl h5.1)
    rw [h1.2.2.1, h5.2] at h6
    have := h.2.2.2 (j + 1) rfl
    omega
end

/-- A time by which the destination is reached in time. -/
def inT (q : Req) (m : List Int) : Bool := decide (0 ≤ gi m q.dst ∧ gi m q.dst ≤ q.dead)
theorem Req.argF {p : Pln} {q : Req} (h : q.okB p.quo.length = true) : p.argF q.src q.ready q.size = true := by
  simp only [Req.okB, decide_eq_true_eq] at h
  simp only [Pln.argF, decide_eq_true_eq]
  omega
theorem Req.jc {p : Pln} {q : Req} (h : p.Ok) (hq : q.okB p.quo.length = true) : JC p.quo.length p.cons q.size q.src q.ready := Pln.jc h (Req.argF hq)
def Pln.arrQ (p : Pln) (q : Req) : List Int := p.arrs q.src q.ready q.size
def Pln.RrQ (p : Pln) (q : Req) (k : Nat) : List Int := Rr p.quo.length p.cons q.size q.src q.ready k
theorem Pln.arrQ_least {p : Pln} {q : Req} (h : p.Ok) (hq : q.okB p.quo.length = true) : Least p.quo.length (RA p.cons q.size q.src q.ready) (p.arrQ q) := Pln.arrs_least h (Req.argF hq)

/-- What Find returns. -/
def JFind (p : Pln) (q : Req) (l : List Hp) (e : Int) : Prop :=
  if p.chk = 0 ∧ q.okB p.quo.length = true then (if inT q (p.arrQ q) then e = 0 ∧ ∃ b, JP p.cons (p.arrQ q) q.size q.src q.dst b ∧ l = b.reverse else e = 18 ∧ l = []) else e = 1 ∧ l = []
theorem JFind.unique {p : Pln} {q : Req} {l l' : List Hp} {e e' : Int} (h : JFind p q l e) (h' : JFind p q l' e') : l = l' ∧ e = e' := by
  unfold JFind at h h'
  split at h
  · rename_i h0
    rw [if_pos h0] at h'
    split at h
    · rename_i h1
      rw [if_pos h1] at h'
      obtain ⟨rfl, b, hb, rfl⟩ := h
      obtain ⟨rfl, b', hb', rfl⟩ := h'
      rw [hb.unique hb']; exact ⟨rfl, rfl⟩
    · rename_i h1
      rw [if_neg h1] at h'
      exact ⟨by rw [h.2, h'.2], by rw [h.1, h'.1]⟩
  · rename_i h0
    rw [if_neg h0] at h'
    exact ⟨by rw [h.2, h'.2], by rw [h.1, h'.1]⟩
/-- What Fewest returns. -/
def JFew (p : Pln) (q : Req) (l : List Hp) (e : Int) : Prop :=
  if p.chk = 0 ∧ q.okB p.quo.length = true then
    (e = 18 ∧ l = [] ∧ ∀ j, j ≤ p.quo.length → inT q (p.RrQ q j) = false) ∨
    (e = 0 ∧ ∃ k b, k ≤ p.quo.length ∧ inT q (p.RrQ q k) = true ∧ (∀ j, j < k → inT q (p.RrQ q j) = false) ∧ FP p.cons (p.RrQ q) q.size k q.dst b ∧ l = b.reverse)
  else e = 1 ∧ l = []
theorem JFew.unique {p : Pln} {q : Req} {l l' : List Hp} {e e' : Int} (h : JFew p q l e) (h' : JFew p q l' e') : l = l' ∧ e = e' := by
  unfold JFew at h h'
  split at h
  · rename_i h0
    rw [if_pos h0] at h'
    rcases h with ⟨rfl, rfl, h⟩ | ⟨rfl, k, b, h1, h2, h3, h4, rfl⟩
    · rcases h' with ⟨rfl, rfl, h'⟩ | ⟨rfl, k, b, h1, h2, h3, h4, rfl⟩
      · exact ⟨rfl, rfl⟩
      · have := h k h1; rw [this] at h2; cases h2
    · rcases h' with ⟨rfl, rfl, h'⟩ | ⟨rfl, k', b', g1, g2, g3, g4, rfl⟩
      · have := h' k h1; rw [this] at h2; cases h2
      · have e : k = k' := by
          rcases Nat.lt_trichotomy k k' with hh | hh | hh
          · have := g3 k hh; rw [this] at h2; cases h2
          · exact hh
          · have := h3 k' hh; rw [this] at g2; cases g2
        subst e
        rw [h4.unique g4]; exact ⟨rfl, rfl⟩
  · rename_i h0
    rw [if_neg h0] at h'
    exact ⟨by rw [h.2, h'.2], by rw [h.1, h'.1]⟩

/-- The contact of a hop. -/
def gc (cons : List Con) (i : Int) : Con := cons.getD i.toNat ⟨0, 0, 0, 0, 0, 0, 0⟩
theorem gc_of {cons : List Con} {i : Nat} {c : Con} (h : cons[i]? = some c) : gc cons (i : Int) = c := by simp [gc, h]
theorem gc_get {cons : List Con} {i : Int} (h : i.toNat < cons.length) : gc cons i = cons[i.toNat] := by simp [gc, h]
def seenB (seen : List Int) (x : Int) : Bool := seen.any (fun y => y == x)
/-- Why hops from a node on are no journey. -/
def chkL (cons : List Con) (n dest D : Int) : Int → Int → List Int → List Hp → Int
  | a, now, _, [] => if a ≠ dest then 10 else if D < now then 16 else 0
  | a, now, seen, h :: l =>
    if h.con < 0 ∨ cons.length ≤ h.con then 2
    else if (gc cons h.con).src ≠ a then 10
    else if seenB seen (gc cons h.con).dst then 27
    else if h.beg < now then 9
    else if (gc cons h.con).fitsB h.beg n = false then 16
    else if h.en ≠ h.beg + (gc cons h.con).dur n ∨ h.arr ≠ h.en + (gc cons h.con).rng then 24
    else chkL cons n dest D (gc cons h.con).dst h.arr (seen ++ [(gc cons h.con).dst]) l
def Pln.jchk (p : Pln) (q : Req) (l : List Hp) : Int := if p.chk = 0 ∧ q.okB p.quo.length = true then (if l.length = 0 then 20 else chkL p.cons q.size q.dst q.dead q.src q.ready [q.src] l) else 1

theorem seenB_iff {seen : List Int} {x : Int} : seenB seen x = true ↔ x ∈ seen := by simp [seenB]
/-- A hop that begins as early as possible passes. -/
theorem chkL_hop {N : Nat} {cons : List Con} {n src t0 dest D : Int} (J : JC N cons n src t0) {i : Nat} {c : Con} {now t : Int} {seen : List Int} {l : List Hp} (hi : cons[i]? = some c) (he : earr c t n ≠ -1) (hnow : now ≤ t) (hs : c.dst ∉ seen) :
    chkL cons n dest D c.src now seen (hopAt i c t n :: l) = chkL cons n dest D c.dst (earr c t n) (seen ++ [c.dst]) l := by
  have hok := J.con c (List.mem_of_getElem? hi)
  have hlt : i < cons.length := (List.getElem?_eq_some_iff.1 hi).1
  have hg := gc_of hi
  have hb := beg_ge c t
  have hsb : seenB seen c.dst = false := by
    cases h : seenB seen c.dst
    · rfl
    · exact absurd (seenB_iff.1 h) hs
  have ha := hopAt_arr (i := i) he
  rcases earr_cases (t := t) hok.1 ⟨J.n1, J.n2⟩ with g | ⟨g1, g2, g3, g4, g5, g6⟩
  · exact absurd g.1 he
  · have e : (hopAt i c t n).con = i := rfl
    have e2 : (hopAt i c t n).beg = c.beg t := rfl
    have e3 : (hopAt i c t n).en = c.beg t + c.dur n := rfl
    simp only [chkL, e, e2, e3, hg, ha]
    rw [if_neg (by omega), if_neg (by simp), hsb, if_neg (by simp), if_neg (by omega), g1, if_neg (by simp), if_neg (by omega)]

/-- A foremost journey passes, up to each node. -/
theorem JP.chk {N : Nat} {cons : List Con} {n src t0 dest D : Int} {m : List Int} (J : JC N cons n src t0) (hs : gi m src = t0) {a : Int} {l : List Hp} (h : JP cons m n src a l) :
    0 ≤ gi m a ∧ ∃ seen, (∀ x ∈ seen, gi m x ≤ gi m a) ∧ ∀ rest, chkL cons n dest D src t0 [src] (l.reverse ++ rest) = chkL cons n dest D a (gi m a) seen rest := by
  induction h with
  | done => exact ⟨by rw [hs]; exact J.r0, [src], fun x hx => by rw [List.mem_singleton.1 hx]; exact Int.le_refl _, fun rest => by rw [hs]; rfl⟩
  | step h1 h2 h5 ih =>
    rename_i a i c l
    obtain ⟨h0, seen, hseen, hrest⟩ := ih
    have h3 := lastC_spec h2
    have h4 := lastC_lt J h2
    refine ⟨by omega, seen ++ [a], fun x hx => ?_, fun rest => ?_⟩
    · rcases List.mem_append.1 hx with hx | hx
      · have := hseen x hx; omega
      · rw [List.mem_singleton.1 hx]; exact Int.le_refl _
    · rw [List.reverse_cons, List.append_assoc, List.singleton_append, hrest, chkL_hop J h3.1 h3.2.2.2.2.1 (Int.le_refl _) (fun hm => by
        have := hseen _ hm; rw [h3.2.2.1] at this; omega), h3.2.2.1, h3.2.2.2.2.2]
/-- A journey out of the rounds passes. -/
theorem FP.chk {N : Nat} {cons : List Con} {n src t0 dest D : Int} (J : JC N cons n src t0) : ∀ {k : Nat} {a : Int} {l : List Hp}, FP cons (Rr N cons n src t0) n k a l → FS N cons n src t0 k a →
    ∃ seen : List Int, (∀ x ∈ seen, ∃ j, j ≤ k ∧ 0 ≤ x ∧ x < N ∧ 0 ≤ gi (Rr N cons n src t0 j) x ∧ gi (Rr N cons n src t0 j) x ≤ gi (Rr N cons n src t0 k) a) ∧
      ∀ rest, chkL cons n dest D src t0 [src] (l.reverse ++ rest) = chkL cons n dest D a (gi (Rr N cons n src t0 k) a) seen rest
  | 0, a, _, .done, h => by
    obtain ⟨rfl, e⟩ := h.zero J
    refine ⟨[a], fun x hx => ?_, fun rest => by rw [e]; rfl⟩
    rw [List.mem_singleton.1 hx]
    exact ⟨0, Nat.le_refl _, h.1, h.2.1, h.2.2.1, Int.le_refl _⟩
  | k + 1, a, _, .step (i := i) (c := c) (l := l) h2 hp, h => by
    obtain ⟨seen, hseen, hrest⟩ := FP.chk (dest := dest) (D := D) J hp (h.prev J h2)
    have h3 := lastC_spec h2
    have h4 := lastC_lt J h2
    refine ⟨seen ++ [a], fun x hx => ?_, fun rest => ?_⟩
    · rcases List.mem_append.1 hx with hx | hx
      · obtain ⟨j, g1, g2, g3, g4, g5⟩ := hseen x hx
        exact ⟨j, by omega, g2, g3, g4, by omega⟩
      · rw [List.mem_singleton.1 hx]
        exact ⟨k + 1, Nat.le_refl _, h.1, h.2.1, h.2.2.1, Int.le_refl _⟩
    · rw [List.reverse_cons, List.append_assoc, List.singleton_append, hrest, chkL_hop J h3.1 h3.2.2.2.2.1 (Int.le_refl _) (fun hm => by
        obtain ⟨j, g1, g2, g3, g4, g5⟩ := hseen _ hm
        rw [h3.2.2.1] at g4 g5
        have := Rr.down J (show j ≤ k + 1 by omega) h.1 h.2.1 g4
        omega), h3.2.2.1, h3.2.2.2.2.2]
theorem inT_up {p : Pln} {q : Req} (h : p.Ok) (hq : q.okB p.quo.length = true) {j k : Nat} (hjk : j ≤ k) (hj : inT q (p.RrQ q j) = true) : inT q (p.RrQ q k) = true := by
  have J := Req.jc h hq
  simp only [Req.okB, decide_eq_true_eq] at hq
  simp only [inT, decide_eq_true_eq] at hj ⊢
  have := Rr.down J hjk hq.2.2.1 hq.2.2.2.1 hj.1
  unfold Pln.RrQ at *
  omega
/-- The rounds end where no more is reached. -/
theorem Pln.RrQ_all {p : Pln} {q : Req} (h : p.Ok) (hq : q.okB p.quo.length = true) {k : Nat} (hk : p.quo.length ≤ k + 1) : p.RrQ q k = p.arrQ q :=
  (rnds_all (Req.jc h hq) hk).unique (Pln.arrQ_least h hq)
/-- The first round in time. -/
theorem FS.first {p : Pln} {q : Req} (h : p.Ok) (hq : q.okB p.quo.length = true) {k : Nat} (hk : inT q (p.RrQ q k) = true) (hb : ∀ j, j < k → inT q (p.RrQ q j) = false) : FS p.quo.length p.cons q.size q.src q.ready k q.dst := by
  have J := Req.jc h hq
  simp only [Req.okB, decide_eq_true_eq] at hq
  simp only [inT, decide_eq_true_eq] at hk
  refine ⟨hq.2.2.1, hq.2.2.2.1, hk.1, fun j hj => ?_⟩
  have h1 := hb j (by omega)
  simp only [inT, decide_eq_false_iff_not] at h1
  rcases (Rr.least J j).snd q.dst hq.2.2.1 hq.2.2.2.1 with e | e
  · exact .inl e
  · have := (Rr.least J j).best _ _ e
    unfold Pln.RrQ at *
    omega
theorem FS.pos {p : Pln} {q : Req} (h : p.Ok) (hq : q.okB p.quo.length = true) {k : Nat} (hf : FS p.quo.length p.cons q.size q.src q.ready k q.dst) : k ≠ 0 := by
  rintro rfl
  have J := Req.jc h hq
  have := (hf.zero J).1
  simp only [Req.okB, decide_eq_true_eq] at hq
  omega

/-- What Check returns on what Find and Fewest return. -/
theorem JFind.chk {p : Pln} {q : Req} {l : List Hp} {e : Int} (h : JFind p q l e) (h0 : p.chk = 0) (hq : q.okB p.quo.length = true) :
    if inT q (p.arrQ q) then e = 0 ∧ p.jchk q l = 0 ∧ ∃ pre x, l = pre ++ [x] ∧ x.arr = gi (p.arrQ q) q.dst else e = 18 ∧ l = [] := by
  have hok := Pln.ok_of h0
  have J := Req.jc hok hq
  have hl := Pln.arrQ_least hok hq
  unfold JFind at h
  rw [if_pos ⟨h0, hq⟩] at h
  split at h
  · rename_i hi
    rw [if_pos hi]
    obtain ⟨rfl, b, hb, rfl⟩ := h
    have hs := hl.srcT J
    simp only [inT, decide_eq_true_eq] at hi
    have hq2 := hq
    simp only [Req.okB, decide_eq_true_eq] at hq2
    refine ⟨rfl, ?_, ?_⟩
    · obtain ⟨_, seen, _, hrest⟩ := JP.chk (dest := q.dst) (D := q.dead) J hs hb
      have h1 := hrest []
      rw [List.append_nil] at h1
      unfold Pln.jchk
      rw [if_pos ⟨h0, hq⟩, if_neg, h1]
      · simp only [chkL]
        rw [if_neg (by simp), if_neg (by omega)]
      · obtain ⟨i, c, l', g1, rfl⟩ := hb.split (by omega)
        simp
    · obtain ⟨i, c, l', g1, rfl⟩ := hb.split (by omega)
      have h4 := lastC_spec g1
      refine ⟨_, _, List.reverse_cons, ?_⟩
      rw [hopAt_arr h4.2.2.2.2.1, h4.2.2.2.2.2]
  · rename_i hi
    rw [if_neg hi]; exact h
theorem JFew.chk {p : Pln} {q : Req} {l : List Hp} {e : Int} (h : JFew p q l e) (h0 : p.chk = 0) (hq : q.okB p.quo.length = true) :
    if inT q (p.arrQ q) then e = 0 ∧ p.jchk q l = 0 ∧ l.length < p.quo.length ∧ 1 ≤ l.length ∧ (∀ j, j < l.length → inT q (p.RrQ q j) = false) else e = 18 ∧ l = [] := by
  have hok := Pln.ok_of h0
  have J := Req.jc hok hq
  have n1 := hok.n1
  unfold JFew at h
  rw [if_pos ⟨h0, hq⟩] at h
  have hall := Pln.RrQ_all hok hq (k := p.quo.length - 1) (by omega)
  split
  · rename_i hi
    rw [← hall] at hi
    rcases h with ⟨rfl, rfl, h⟩ | ⟨rfl, k, b, h1, h2, h3, h4, rfl⟩
    · have := h (p.quo.length - 1) (by omega)
      rw [this] at hi; cases hi
    · have hf := FS.first hok hq h2 h3
      have hp := hf.pos hok hq
      have hlen := h4.len
      refine ⟨rfl, ?_, ?_, ?_, ?_⟩
      · obtain ⟨seen, _, hrest⟩ := FP.chk (dest := q.dst) (D := q.dead) J h4 hf
        have g1 := hrest []
        rw [List.append_nil] at g1
        unfold Pln.jchk
        rw [if_pos ⟨h0, hq⟩, if_neg (by simp; intro hb; rw [hb] at hlen; simp at hlen; omega), g1]
        simp only [inT, decide_eq_true_eq] at h2
        unfold Pln.RrQ at h2
        simp only [chkL]
        rw [if_neg (by simp), if_neg (by omega)]
      · rw [List.length_reverse, hlen]
        apply Classical.byContradiction
        intro hh
        have := h3 (p.quo.length - 1) (by omega)
        rw [this] at hi; cases hi
      · rw [List.length_reverse, hlen]; omega
      · rw [List.length_reverse, hlen]; exact h3
  · rename_i hi
    rcases h with ⟨rfl, rfl, h⟩ | ⟨rfl, k, b, h1, h2, h3, h4, rfl⟩
    · exact ⟨rfl, rfl⟩
    · exfalso
      apply hi
      rw [← Pln.RrQ_all hok hq (k := p.quo.length) (by omega)]
      exact inT_up hok hq h1 h2
/-- Find has at least as many hops as Fewest. -/
theorem JFind.more {p : Pln} {q : Req} {l m : List Hp} {e f : Int} (h : JFind p q l e) (h' : JFew p q m f) (h0 : p.chk = 0) (hq : q.okB p.quo.length = true) : e = f ∧ (e = 0 → m.length ≤ l.length) := by
  have hok := Pln.ok_of h0
  have J := Req.jc hok hq
  have hl := Pln.arrQ_least hok hq
  have g := h.chk h0 hq
  have g' := h'.chk h0 hq
  by_cases hi : inT q (p.arrQ q) = true
  · rw [if_pos hi] at g g'
    refine ⟨by rw [g.1, g'.1], fun _ => ?_⟩
    unfold JFind at h
    rw [if_pos ⟨h0, hq⟩, if_pos hi] at h
    obtain ⟨_, b, hb, rfl⟩ := h
    have hr := hb.reach J (hl.srcT J)
    have h1 := (Rr.least J b.length).best _ _ hr
    simp only [inT, decide_eq_true_eq] at hi
    apply Classical.byContradiction
    intro hh
    have h2 := g'.2.2.2.2 b.length (by rw [List.length_reverse] at hh; omega)
    simp only [inT, decide_eq_false_iff_not] at h2
    unfold Pln.RrQ at h2
    omega
  · rw [if_neg hi] at g g'
    exact ⟨by rw [g.1, g'.1], fun e0 => by omega⟩
/-- A list of hops that passes ends at the destination, in time. -/
theorem chkL_last {cons : List Con} {n dest D : Int} {x : Hp} : ∀ {l : List Hp} {a now : Int} {seen : List Int}, chkL cons n dest D a now seen (l ++ [x]) = 0 → (gc cons x.con).dst = dest ∧ x.arr ≤ D
  | [], a, now, seen, h => by
    simp only [List.nil_append, chkL] at h
    repeat (split at h; · omega)
    rename_i g1 g2
    exact ⟨Classical.not_not.1 g1, by omega⟩
  | y :: l, a, now, seen, h => by
    simp only [List.cons_append, chkL] at h
    repeat (split at h; · omega)
    exact chkL_last h

end Go.Proofs.YtmaengcmhopmbaaGreat

/- Layers 24 and 25 beside each other: earliest arrivals and latest times are each other's mirror. -/
namespace Go.Proofs.YtmaengcmhopmbaaGreat
set_option linter.unusedVariables false
open Go.RowKit

/-- What arrives in time has left in time. -/
theorem mir_le {p : Pln} {dest D n src t0 : Int} (h : p.Ok) (ha : p.argB dest D n = true) {k : Nat} {i t : Int} (hr : RK p.cons n src t0 k i t) : t ≤ gi (p.times dest D n) i → t0 ≤ gi (p.times dest D n) src := by
  have hinv := Pln.times_inv h ha
  have ha2 := ha
  simp only [Pln.argB, decide_eq_true_eq] at ha2
  induction hr with
  | start k => exact id
  | step hr hc hi he ih =>
    rename_i k i t c
    intro hle
    apply ih
    subst hi
    have hok := h.con c hc
    have hcs := (earr_cases (t := t) hok.1 ⟨ha2.2.2.2.2.1, ha2.2.2.2.2.2⟩).resolve_left (fun g => he g.1)
    obtain ⟨g1, g2, g3, g4, g5, g6⟩ := hcs
    have hb := beg_ge c t
    have hd0 := hok.1.dst0
    have hdD := hinv.1.hi _ (gi_mem (m := p.times dest D n) (i := c.dst) (by rw [hinv.1.len]; have := hok.2.2; omega))
    by_cases e : c.src = dest
    · rw [e, hinv.1.dst]; omega
    · have h1 := hinv.2 c hc e
      have h2 := lbeg_most (c := c) (t := gi (p.times dest D n) c.dst) (size := n) (b := c.beg t) (by omega) hb.2 g2 (by omega)
      omega
/-- What leaves in time can arrive in time. -/
theorem mir_ge {p : Pln} {dest D n : Int} (h : p.Ok) (ha : p.argB dest D n = true) : ∀ (m : Nat) (i t : Int), 0 ≤ i → i < p.quo.length → 0 ≤ t → t ≤ gi (p.times dest D n) i → (D - gi (p.times dest D n) i).toNat ≤ m → ∃ a, a ≤ D ∧ RA p.cons n i t dest a := by
  have hinv := Pln.times_inv h ha
  have ha2 := ha
  simp only [Pln.argB, decide_eq_true_eq] at ha2
  have key : ∀ (i t : Int) (c : Con) (a : Int), c ∈ p.cons → c.src = i → earr c t n ≠ -1 → RA p.cons n c.dst (earr c t n) dest a → RA p.cons n i t dest a := by
    intro i t c a hc hi he ⟨k, hr⟩
    have : ∀ {k : Nat} {j s : Int}, RK p.cons n c.dst (earr c t n) k j s → RK p.cons n i t (k + 1) j s := by
      intro k j s hr
      induction hr with
      | start k =>
        have h1 := RK.step (RK.start (cons := p.cons) (n := n) (src := i) (t0 := t) 0) hc hi he
        have h2 := h1.more k
        rw [show 0 + 1 + k = k + 1 by omega] at h2
        exact h2
      | step hr hc hi he ih => exact .step ih hc hi he
    exact ⟨_, this hr⟩
  intro m
  induction m with
  | zero =>
    intro i t h0 h1 h2 h3 h4
    by_cases e : i = dest
    · subst e; exact ⟨t, by rw [hinv.1.dst] at h3; exact h3, ⟨0, .start 0⟩⟩
    · obtain ⟨c, hc, e1, e2⟩ := Pln.times_sup h ha h0 h1 e (by omega)
      have hok := h.con c hc
      have hd0 := hok.1.dst0
      have hdD := hinv.1.hi _ (gi_mem (m := p.times dest D n) (i := c.dst) (by rw [hinv.1.len]; have := hok.2.2; omega))
      have d := Con.dur_bd hok.1 ha2.2.2.2.2.1 ha2.2.2.2.2.2
      have := hok.1.rng0
      rcases lbeg_cases c (gi (p.times dest D n) c.dst) n with g | ⟨g1, g2, g3, g4, g5⟩ <;> omega
  | succ m ih =>
    intro i t h0 h1 h2 h3 h4
    by_cases e : i = dest
    · subst e; exact ⟨t, by rw [hinv.1.dst] at h3; exact h3, ⟨0, .start 0⟩⟩
    · obtain ⟨c, hc, e1, e2⟩ := Pln.times_sup h ha h0 h1 e (by omega)
      have hok := h.con c hc
      have hd0 := hok.1.dst0
      have d := Con.dur_bd hok.1 ha2.2.2.2.2.1 ha2.2.2.2.2.2
      have hr := hok.1.rng0
      have hb := beg_ge c t
      rcases lbeg_cases c (gi (p.times dest D n) c.dst) n with g | ⟨g1, g2, g3, g4, g5⟩
      · omega
      · have hbl : c.beg t ≤ lbeg c (gi (p.times dest D n) c.dst) n := by unfold Con.beg; split <;> omega
        have hf : c.fitsB (c.beg t) n = true := by simp only [Con.fitsB, decide_eq_true_eq]; omega
        have he : earr c t n = c.beg t + c.dur n + c.rng := by unfold earr; rw [if_pos hf]
        obtain ⟨a, ha1, ha3⟩ := ih c.dst (earr c t n) hd0 hok.2.2 (by omega) (by omega) (by omega)
        exact ⟨a, ha1, key i t c a hc e1 (by have := hok.1.st0; omega) ha3⟩

/-- The earliest arrival, and the latest time that leaves for it. -/
def Pln.ear (p : Pln) (src dst n t : Int) : Int := gi (p.arrs src t n) dst
def Pln.lat (p : Pln) (src dst n a : Int) : Int := gi (p.times dst a n) src
structure PA (p : Pln) (src dst n : Int) : Prop where
  ok : p.Ok
  s0 : 0 ≤ src
  s1 : src < p.quo.length
  d0 : 0 ≤ dst
  d1 : dst < p.quo.length
  ne : src ≠ dst
  n0 : 1 ≤ n
  n1 : n ≤ 65536
section
variable {p : Pln} {src dst n : Int}
theorem PA.argF (h : PA p src dst n) {t : Int} (h0 : 0 ≤ t) (h1 : t ≤ 1099511627776) : p.argF src t n = true := by
  simp only [Pln.argF, decide_eq_true_eq]; exact ⟨h.s0, h.s1, h0, h1, h.n0, h.n1⟩
theorem PA.argB (h : PA p src dst n) {a : Int} (h0 : 0 ≤ a) (h1 : a ≤ 1099511627776) : p.argB dst a n = true := by
  simp only [Pln.argB, decide_eq_true_eq]; exact ⟨h.d0, h.d1, h0, h1, h.n0, h.n1⟩
theorem PA.least (h : PA p src dst n) {t : Int} (h0 : 0 ≤ t) (h1 : t ≤ 1099511627776) : Least p.quo.length (RA p.cons n src t) (p.arrs src t n) := Pln.arrs_least h.ok (h.argF h0 h1)
theorem PA.jc (h : PA p src dst n) {t : Int} (h0 : 0 ≤ t) (h1 : t ≤ 1099511627776) : JC p.quo.length p.cons n src t := Pln.jc h.ok (h.argF h0 h1)
/-- An arrival elsewhere takes time. -/
theorem PA.ra (h : PA p src dst n) {t a : Int} (h0 : 0 ≤ t) (h1 : t ≤ 1099511627776) (hr : RA p.cons n src t dst a) : t + 2 ≤ a ∧ a ≤ 1099511627776 := by
  have J := h.jc h0 h1
  obtain ⟨k, hr⟩ := hr
  have hb := hr.rng J
  generalize hd : dst = d at hr
  cases hr with
  | start => exact absurd hd.symm h.ne
  | step hr hc hi he =>
    rename_i i t' c
    have hb2 := hr.rng J
    have hok := (J.con c hc).1
    have hcs := (earr_cases (t := t') hok ⟨h.n0, h.n1⟩).resolve_left (fun g => he g.1)
    omega
theorem PA.ear_cases (h : PA p src dst n) {t : Int} (h0 : 0 ≤ t) (h1 : t ≤ 1099511627776) : p.ear src dst n t = -1 ∨ (RA p.cons n src t dst (p.ear src dst n t) ∧ t + 2 ≤ p.ear src dst n t ∧ p.ear src dst n t ≤ 1099511627776) := by
  rcases (h.least h0 h1).snd dst h.d0 h.d1 with e | e
  · exact .inl e
  · exact .inr ⟨e, h.ra h0 h1 e⟩
/-- The latest time for the earliest arrival is no earlier than the time. -/
theorem PA.lat_ge (h : PA p src dst n) {t a : Int} (h0 : 0 ≤ t) (h1 : t ≤ 1099511627776) (hr : p.ear src dst n t ≠ -1) (hle : p.ear src dst n t ≤ a) (ha : a ≤ 1099511627776) : t ≤ p.lat src dst n a := by
  rcases h.ear_cases h0 h1 with e | ⟨⟨k, e⟩, e2, e3⟩
  · exact absurd e hr
  · have hB := h.argB (a := a) (by omega) ha
    exact mir_le h.ok hB e (by rw [(Pln.times_inv h.ok hB).1.dst]; exact hle)
theorem PA.lat_rng (h : PA p src dst n) {a : Int} (h0 : 0 ≤ a) (h1 : a ≤ 1099511627776) : -1 ≤ p.lat src dst n a ∧ p.lat src dst n a ≤ a := by
  have hinv := (Pln.times_inv h.ok (h.argB h0 h1)).1
  have hm := gi_mem (m := p.times dst a n) (i := src) (by rw [hinv.len]; have := h.s0; have := h.s1; omega)
  exact ⟨hinv.lo _ hm, hinv.hi _ hm⟩
/-- Whoever is ready at that time, or earlier, can be there. -/
theorem PA.ear_le (h : PA p src dst n) {t a : Int} (h0 : 0 ≤ t) (ha0 : 0 ≤ a) (ha : a ≤ 1099511627776) (hle : t ≤ p.lat src dst n a) : p.ear src dst n t ≠ -1 ∧ 0 ≤ p.ear src dst n t ∧ p.ear src dst n t ≤ a := by
  have hr := h.lat_rng ha0 ha
  obtain ⟨b, hb, hra⟩ := mir_ge h.ok (h.argB ha0 ha) _ src t h.s0 h.s1 h0 hle (Nat.le_refl _)
  have h2 := (h.least h0 (by omega)).best dst b hra
  unfold Pln.ear
  omega
theorem PA.lat_lt (h : PA p src dst n) {a : Int} (ha0 : 0 ≤ a) (ha : a ≤ 1099511627776) (hl : 0 ≤ p.lat src dst n a) : p.lat src dst n a + 2 ≤ a := by
  have h1 := h.ear_le hl ha0 ha (Int.le_refl _)
  have hr := h.lat_rng ha0 ha
  rcases h.ear_cases hl (by omega) with e | ⟨e, e2, e3⟩
  · exact absurd e h1.1
  · omega
end

/-- A step of a profile. -/
structure Stp where
  fr : Int
  til : Int
  val : Int
def Pln.stp (p : Pln) (src dst n t : Int) : Stp := ⟨t, p.lat src dst n (p.ear src dst n t), p.ear src dst n t⟩
/-- The steps from the time 0 on, and where the next one begins. -/
inductive Chn (p : Pln) (src dst n : Int) : List Stp → Int → Prop where
  | nil : Chn p src dst n [] 0
  | snoc {l : List Stp} {t : Int} : Chn p src dst n l t → t ≤ 1099511627776 → p.ear src dst n t ≠ -1 → Chn p src dst n (l ++ [p.stp src dst n t]) (p.lat src dst n (p.ear src dst n t) + 1)
def Pln.stopAt (p : Pln) (src dst n t : Int) : Prop := 1099511627776 < t ∨ p.ear src dst n t = -1
section
variable {p : Pln} {src dst n : Int}
theorem Chn.rng (h : PA p src dst n) {l : List Stp} {t : Int} (hc : Chn p src dst n l t) : 0 ≤ t ∧ t ≤ 1099511627776 ∧ l.length ≤ t := by
  induction hc with
  | nil => exact ⟨by omega, by omega, by simp⟩
  | snoc hc h1 h2 ih =>
    rename_i l t
    rcases h.ear_cases ih.1 h1 with e | ⟨e, e2, e3⟩
    · exact absurd e h2
    · have h3 := h.lat_ge ih.1 h1 h2 (Int.le_refl _) e3
      have h4 := h.lat_lt (a := p.ear src dst n t) (by omega) e3 (by omega)
      rw [List.length_append, List.length_singleton]
      omega
theorem Chn.unique {l l' : List Stp} {t t' : Int} (h : Chn p src dst n l t) (h' : Chn p src dst n l' t') (hl : l.length = l'.length) : l = l' ∧ t = t' := by
  induction h generalizing l' t' with
  | nil =>
    cases h' with
    | nil => exact ⟨rfl, rfl⟩
    | snoc => simp at hl
  | snoc hc h1 h2 ih =>
    cases h' with
    | nil => simp at hl
    | snoc hc' h1' h2' =>
      obtain ⟨rfl, rfl⟩ := ih hc' (by simpa using hl)
      exact ⟨rfl, rfl⟩
/-- A chain goes through the beginnings of a longer one. -/
theorem Chn.before {l : List Stp} {t : Int} (h : Chn p src dst n l t) : ∀ k, k < l.length → ∃ l' t', Chn p src dst n l' t' ∧ l'.length = k ∧ ¬ p.stopAt src dst n t' := by
  induction h with
  | nil => intro k hk; simp at hk
  | snoc hc h1 h2 ih =>
    rename_i l t
    intro k hk
    rw [List.length_append, List.length_singleton] at hk
    by_cases e : k = l.length
    · exact ⟨l, t, hc, e.symm, fun hs => by rcases hs with hs | hs <;> omega⟩
    · exact ih k (by omega)
theorem Chn.most {l l' : List Stp} {t t' : Int} (h : Chn p src dst n l t) (hs : p.stopAt src dst n t) (h' : Chn p src dst n l' t') : l'.length ≤ l.length := by
  apply Classical.byContradiction
  intro hh
  obtain ⟨m, s, hm, hl, hns⟩ := h'.before l.length (by omega)
  obtain ⟨rfl, rfl⟩ := h.unique hm hl.symm
  exact hns hs
/-- The values of the steps are the earliest arrivals. -/
theorem Chn.vals (h : PA p src dst n) {l : List Stp} {t : Int} (hc : Chn p src dst n l t) : ∀ s ∈ l, 0 ≤ s.fr ∧ s.fr ≤ s.til ∧ s.til < t ∧ s.til + 2 ≤ s.val ∧ s.val ≤ 1099511627776 ∧ s.val = p.ear src dst n s.fr ∧ s.til = p.lat src dst n s.val ∧ ∀ r, s.fr ≤ r → r ≤ s.til → p.ear src dst n r = s.val := by
  induction hc with
  | nil => intro s hs; simp at hs
  | snoc hc h1 h2 ih =>
    rename_i l t
    have hr := hc.rng h
    intro s hs
    rcases h.ear_cases hr.1 h1 with e | ⟨e, e2, e3⟩
    · exact absurd e h2
    have h3 := h.lat_ge hr.1 h1 h2 (Int.le_refl _) e3
    have h4 := h.lat_lt (a := p.ear src dst n t) (by omega) e3 (by omega)
    rcases List.mem_append.1 hs with hs | hs
    · obtain ⟨g1, g2, g3, g4, g5, g6, g7, g8⟩ := ih s hs
      exact ⟨g1, g2, by omega, g4, g5, g6, g7, g8⟩
    · rw [List.mem_singleton.1 hs]
      refine ⟨hr.1, h3, by simp only [Pln.stp]; omega, h4, e3, rfl, rfl, fun r hr0 hr1 => ?_⟩
      simp only [Pln.stp] at hr0 hr1 ⊢
      have h5 := h.ear_le (t := r) (a := p.ear src dst n t) (by omega) (by omega) e3 hr1
      have h6 := h.lat_ge (t := r) (a := p.ear src dst n r) (by omega) (by omega) h5.1 (Int.le_refl _) (by omega)
      have h7 := h.ear_le (t := t) (a := p.ear src dst n r) hr.1 h5.2.1 (by omega) (by omega)
      omega
end

end Go.Proofs.YtmaengcmhopmbaaGreat

/- Layer 26 (reach): profiles as plain data. -/
namespace Go.Proofs.YtmaengcmhopmbaaGreat
set_option linter.unusedVariables false
open Go.RowKit

/-- A level of a step function. -/
structure Lev where
  tm : Int
  val : Int
def Lev.cells (x : Lev) : List Value := [.int .i64 x.tm, .int .i64 x.val]
def Lev.value (x : Lev) : Value := .agg #[.int .i64 x.tm, .int .i64 x.val]
def ELev : Elt Lev := ⟨Lev.cells, 2, fun _ => rfl, by omega, fun x u hu => by simp [Lev.cells] at hu; rcases hu with h | h <;> subst h <;> rfl⟩
theorem Rd.lev {w : World} {A : Option Addr} {l : List Lev} (h : Rd ELev w A l) {k : Nat} (hk : k < l.length) : ∃ b o, A = some ⟨b, o, none⟩ ∧ b < w.heap.size ∧
    w.cell? ⟨b, o + k * 2, none⟩ = some (.int .i64 l[k].tm) ∧ w.cell? ⟨b, o + k * 2 + 1, none⟩ = some (.int .i64 l[k].val) := by
  obtain ⟨b, o, rfl, hb, hc⟩ := h.at hk
  exact ⟨b, o, rfl, hb, hc 0 _ rfl, hc 1 _ rfl⟩

def bstp (b : Int × Int) (s : Stp) : Int × Int := if s.val - s.til < b.2 - b.1 then (s.til, s.val) else b
def bestS : List Stp → Int × Int
  | [] => (0, 0)
  | s :: l => l.foldl bstp (s.til, s.val)
theorem bestS_one (s : Stp) : bestS ([] ++ [s]) = (s.til, s.val) := rfl
theorem bestS_snoc {l : List Stp} (h : l ≠ []) (s : Stp) : bestS (l ++ [s]) = bstp (bestS l) s := by
  cases l with
  | nil => exact absurd rfl h
  | cons x l => simp only [List.cons_append, bestS, List.foldl_append, List.foldl_cons, List.foldl_nil]
def lvs (l : List Stp) : List Lev := l.map fun s => ⟨s.fr, s.val⟩
def lvl (l : List Stp) (t : Int) : List Lev := if l = [] then [] else lvs l ++ [⟨t, 0⟩]
theorem lvs_len (l : List Stp) : (lvs l).length = l.length := by simp [lvs]
theorem lvs_snoc (l : List Stp) (s : Stp) : lvs (l ++ [s]) = lvs l ++ [⟨s.fr, s.val⟩] := by simp [lvs]
theorem lvl_len {l : List Stp} {t : Int} (h : l ≠ []) : (lvl l t).length = l.length + 1 := by unfold lvl; rw [if_neg h]; simp [lvs]

/-- Whether nodes and a size fit. -/
def Pln.argR (p : Pln) (n : Int) (nodes : List Int) : Bool := decide (1 ≤ n ∧ n ≤ 65536 ∧ ∀ x ∈ nodes, 0 ≤ x ∧ x < p.quo.length)
/-- api.Errno of reach.valid. -/
def Pln.rv (p : Pln) (n : Int) (nodes : List Int) : Int := if p.chk = 0 then (if p.argR n nodes then 0 else 2) else 1
theorem Pln.rv_pa {p : Pln} {src dst n : Int} (h : p.rv n [src, dst] = 0) (hne : src ≠ dst) : PA p src dst n := by
  unfold Pln.rv at h
  split at h
  · rename_i h0
    split at h
    · rename_i h1
      simp only [Pln.argR, decide_eq_true_eq, List.mem_cons, List.not_mem_nil, or_false, forall_eq_or_imp, forall_eq] at h1
      exact ⟨Pln.ok_of h0, h1.2.2.1.1, h1.2.2.1.2, h1.2.2.2.1, h1.2.2.2.2, hne, h1.1, h1.2.1⟩
    · omega
  · omega
/-- What levels returns. -/
def LevP (p : Pln) (src dst n : Int) (out : List Lev) (b : Int × Int) (e : Int) : Prop :=
  if p.rv n [src, dst] = 0 then
    (if src = dst then e = 10 ∧ out = [] ∧ b = (0, 0)
    else (e = 4 ∧ out = [] ∧ b = (0, 0) ∧ ∃ l t, Chn p src dst n l t ∧ (l.length = 1001 ∨ (l.length = 1000 ∧ p.stopAt src dst n t))) ∨
      (e = 0 ∧ ∃ l t, Chn p src dst n l t ∧ p.stopAt src dst n t ∧ l.length < 1000 ∧ out = lvl l t ∧ b = bestS l))
  else e = p.rv n [src, dst] ∧ out = [] ∧ b = (0, 0)
theorem LevP.unique {p : Pln} {src dst n : Int} {out out' : List Lev} {b b' : Int × Int} {e e' : Int} (h : LevP p src dst n out b e) (h' : LevP p src dst n out' b' e') : out = out' ∧ b = b' ∧ e = e' := by
  unfold LevP at h h'
  split at h
  · rename_i h0
    rw [if_pos h0] at h'
    split at h
    · rename_i h1
      rw [if_pos h1] at h'
      exact ⟨by rw [h.2.1, h'.2.1], by rw [h.2.2, h'.2.2], by rw [h.1, h'.1]⟩
    · rename_i h1
      rw [if_neg h1] at h'
      rcases h with ⟨rfl, rfl, rfl, l, t, hc, hl⟩ | ⟨rfl, l, t, hc, hs, hl, rfl, rfl⟩
      · rcases h' with ⟨rfl, rfl, rfl, _⟩ | ⟨rfl, l', t', hc', hs', hl', rfl, rfl⟩
        · exact ⟨rfl, rfl, rfl⟩
        · have := hc'.most hs' hc
          rcases hl with hl | hl <;> omega
      · rcases h' with ⟨rfl, rfl, rfl, l', t', hc', hl'⟩ | ⟨rfl, l', t', hc', hs', hl', rfl, rfl⟩
        · have := hc.most hs hc'
          rcases hl' with hl' | hl' <;> omega
        · have h2 := hc.most hs hc'
          have h3 := hc'.most hs' hc
          obtain ⟨rfl, rfl⟩ := hc.unique hc' (by omega)
          exact ⟨rfl, rfl, rfl⟩
  · rename_i h0
    rw [if_neg h0] at h'
    exact ⟨by rw [h.2.1, h'.2.1], by rw [h.2.2, h'.2.2], by rw [h.1, h'.1]⟩
/-- What Fastest returns. -/
def fstE (out : List Lev) (e : Int) : Int := if e = 0 then (if out = [] then 18 else 0) else e
def fstB (out : List Lev) (b : Int × Int) (e : Int) : Int × Int := if e = 0 then (if out = [] then (0, 0) else b) else (0, 0)

section
variable {p : Pln} {src dst n : Int}
/-- Where a step ends the next one begins. -/
theorem Chn.next (h : PA p src dst n) {l : List Stp} {t : Int} (hc : Chn p src dst n l t) : ∀ (i : Nat) (s : Stp), l[i]? = some s → (∀ s', l[i + 1]? = some s' → s'.fr = s.til + 1) ∧ (i + 1 = l.length → t = s.til + 1) := by
  induction hc with
  | nil => intro i s hs; simp at hs
  | snoc hc h1 h2 ih =>
    rename_i l t
    intro i s hs
    by_cases e : i < l.length
    · rw [List.getElem?_append_left e] at hs
      have h3 := ih i s hs
      refine ⟨fun s' hs' => ?_, fun hl => by rw [List.length_append, List.length_singleton] at hl; omega⟩
      by_cases e2 : i + 1 < l.length
      · rw [List.getElem?_append_left e2] at hs'
        exact h3.1 s' hs'
      · have e3 : i + 1 = l.length := by omega
        rw [e3, List.getElem?_append_right (Nat.le_refl _), Nat.sub_self] at hs'
        simp only [List.getElem?_cons_zero, Option.some.injEq] at hs'
        subst hs'
        exact h3.2 e3
    · have e3 : i = l.length := by
        have := (List.getElem?_eq_some_iff.1 hs).1
        rw [List.length_append, List.length_singleton] at this
        omega
      rw [e3, List.getElem?_append_right (Nat.le_refl _), Nat.sub_self] at hs
      simp only [List.getElem?_cons_zero, Option.some.injEq] at hs
      subst hs
      refine ⟨fun s' hs' => ?_, fun _ => rfl⟩
      have := (List.getElem?_eq_some_iff.1 hs').1
      rw [List.length_append, List.length_singleton] at this
      omega
theorem Chn.empty {l : List Stp} {t : Int} (hc : Chn p src dst n l t) (hl : l = []) : t = 0 := by
  cases hc with
  | nil => rfl
  | snoc hc h1 h2 => simp at hl
theorem Chn.first {l : List Stp} {t : Int} (hc : Chn p src dst n l t) : ∀ s, l[0]? = some s → s.fr = 0 := by
  induction hc with
  | nil => intro s hs; simp at hs
  | snoc hc h1 h2 ih =>
    rename_i l t
    intro s hs
    by_cases hl : l = []
    · have ht := hc.empty hl
      subst hl
      simp only [List.nil_append, List.getElem?_cons_zero, Option.some.injEq] at hs
      subst hs
      simp only [Pln.stp]; exact ht
    · have h3 : 0 < l.length := List.length_pos_iff.2 hl
      rw [List.getElem?_append_left h3] at hs
      exact ih s hs
/-- Every time before the end lies in a step. -/
theorem Chn.cover (h : PA p src dst n) {l : List Stp} {t : Int} (hc : Chn p src dst n l t) : ∀ r, 0 ≤ r → r < t → ∃ (i : Nat) (s : Stp), l[i]? = some s ∧ s.fr ≤ r ∧ r ≤ s.til := by
  induction hc with
  | nil => intro r h0 h1; omega
  | snoc hc h1 h2 ih =>
    rename_i l t
    intro r h0 hr
    by_cases e : r < t
    · obtain ⟨i, s, hs, h3⟩ := ih r h0 e
      exact ⟨i, s, by rw [List.getElem?_append_left (List.getElem?_eq_some_iff.1 hs).1]; exact hs, h3⟩
    · exact ⟨l.length, p.stp src dst n t, by simp, by simp only [Pln.stp]; omega, by simp only [Pln.stp]; omega⟩
/-- Behind the end there is nothing. -/
theorem stop_ear (h : PA p src dst n) {t r : Int} (h0 : 0 ≤ t) (h1 : t ≤ 1099511627776) (hs : p.stopAt src dst n t) (hr : t ≤ r) (hr1 : r ≤ 1099511627776) : p.ear src dst n r = -1 := by
  rcases hs with hs | hs
  · omega
  · apply Classical.byContradiction
    intro hh
    rcases h.ear_cases (t := r) (by omega) hr1 with e | ⟨e, e2, e3⟩
    · exact hh e
    · have h3 := h.lat_ge (t := r) (a := p.ear src dst n r) (by omega) hr1 hh (Int.le_refl _) e3
      have h4 := h.ear_le (t := t) (a := p.ear src dst n r) h0 (by omega) e3 (by omega)
      exact h4.1 hs
/-- A later step arrives later. -/
theorem Chn.rise (h : PA p src dst n) {l : List Stp} {t : Int} (hc : Chn p src dst n l t) {i j : Nat} {s s' : Stp} (hi : l[i]? = some s) (hj : l[j]? = some s') (hij : i < j) : s.til < s'.fr ∧ s.val < s'.val := by
  have hv := fun s hs => hc.vals h s hs
  have ms := hv s (List.mem_of_getElem? hi)
  have ms' := hv s' (List.mem_of_getElem? hj)
  have hfr : ∀ d : Nat, ∀ s', l[i + 1 + d]? = some s' → s.til < s'.fr := by
    intro d
    induction d with
    | zero => intro s' hs'; have := (hc.next h i s hi).1 s' hs'; omega
    | succ d ih =>
      intro s' hs'
      have hlt := (List.getElem?_eq_some_iff.1 hs').1
      have hm : l[i + 1 + d]? = some (l[i + 1 + d]'(by omega)) := List.getElem?_eq_getElem _
      have h1 := ih _ hm
      have h2 := (hc.next h (i + 1 + d) _ hm).1 s' hs'
      have h3 := hv _ (List.mem_of_getElem? hm)
      omega
  have h1 := hfr (j - (i + 1)) s' (by rw [show i + 1 + (j - (i + 1)) = j by omega]; exact hj)
  refine ⟨h1, ?_⟩
  obtain ⟨a1, a2, a3, a4, a5, a6, a7, a8⟩ := ms
  obtain ⟨b1, b2, b3, b4, b5, b6, b7, b8⟩ := ms'
  apply Classical.byContradiction
  intro hh
  have h2 := h.lat_ge (t := s'.fr) (a := s.val) (by omega) (by omega) (by rw [← b6]; omega) (by rw [← b6]; omega) a5
  rw [← a7] at h2
  omega
end

end Go.Proofs.YtmaengcmhopmbaaGreat

/- Layer 24 (journey): the plain law of JourneyMonotone. -/
namespace Go.Proofs.YtmaengcmhopmbaaGreat
set_option linter.unusedVariables false
open Go.RowKit

theorem RK.lower {cons cons' : List Con} {n n' src t0 t0' : Int} (hok : ∀ c ∈ cons, c.Ok) (hsub : ∀ c ∈ cons, c ∈ cons') (h1 : 1 ≤ n') (hn : n' ≤ n) (hn2 : n ≤ 65536) (ht : t0' ≤ t0) {k : Nat} {i t : Int} (h : RK cons n src t0 k i t) : ∃ t', t' ≤ t ∧ RK cons' n' src t0' k i t' := by
  induction h with
  | start k => exact ⟨t0', ht, .start k⟩
  | step h hc hi he ih =>
    rename_i k i t c
    obtain ⟨t', h2, h3⟩ := ih
    have h4 := earr_mono (hok c hc) h2 h1 hn hn2 he
    exact ⟨earr c t' n', h4.2.2, .step h3 (hsub c hc) hi h4.1⟩
/-- The law: an earlier start, a lesser size, a plan that holds the contacts of the first. -/
theorem Pln.arrs_mono {p p' : Pln} {src t0 t0' n n' : Int} (h : p.Ok) (h' : p'.Ok) (hq : p'.quo.length = p.quo.length) (hsub : ∀ c ∈ p.cons, c ∈ p'.cons) (ha : p.argF src t0 n = true) (ha' : p'.argF src t0' n' = true) (ht : t0' ≤ t0) (hn : n' ≤ n) {i : Int} (h0 : 0 ≤ i) (hN : i < p.quo.length) (hg : 0 ≤ gi (p.arrs src t0 n) i) :
    0 ≤ gi (p'.arrs src t0' n') i ∧ gi (p'.arrs src t0' n') i ≤ gi (p.arrs src t0 n) i := by
  have hl := Pln.arrs_least h ha
  have hl' := Pln.arrs_least h' ha'
  have J := Pln.jc h ha
  have J' := Pln.jc h' ha'
  rcases hl.snd i h0 hN with e | ⟨k, e⟩
  · omega
  · obtain ⟨t', h2, h3⟩ := e.lower (fun c hc => (J.con c hc).1) hsub J'.n1 hn J.n2 ht
    have h4 := hl'.best i t' ⟨k, h3⟩
    omega

end Go.Proofs.YtmaengcmhopmbaaGreat
