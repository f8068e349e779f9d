/- Layer 22 (plan): plans as plain data, and what Check computes. -/
import Derived.Test.YtgmfnhianhngiaaMemI
import Derived.Test.YtgmfnhianhngiaaCon
namespace Go.Proofs.Ytgmfnhianhngiaa
set_option linter.unusedVariables false
open Go.RowKit

def ECon : Elt Con := ⟨fun c => c.cells.toList, 7, fun _ => rfl, by omega, fun x u hu => by simp [Con.cells] at hu; rcases hu with h | h | h | h | h | h | h <;> subst h <;> rfl⟩
theorem Rd.con {w : World} {A : Option Addr} {l : List Con} (h : Rd ECon w A l) {k : Nat} (hk : k < l.length) : ∃ b o, A = some ⟨b, o, none⟩ ∧ b < w.heap.size ∧
    w.cell? ⟨b, o + k * 7, none⟩ = some (.int .i64 l[k].src) ∧ w.cell? ⟨b, o + k * 7 + 1, none⟩ = some (.int .i64 l[k].dst) ∧ w.cell? ⟨b, o + k * 7 + 2, none⟩ = some (.int .i64 l[k].st) ∧ w.cell? ⟨b, o + k * 7 + 3, none⟩ = some (.int .i64 l[k].en) ∧
    w.cell? ⟨b, o + k * 7 + 4, none⟩ = some (.int .i64 l[k].rate) ∧ w.cell? ⟨b, o + k * 7 + 5, none⟩ = some (.int .i64 l[k].rng) ∧ w.cell? ⟨b, o + k * 7 + 6, none⟩ = some (.int .i64 l[k].loss) := by
  obtain ⟨b, o, rfl, hb, hc⟩ := h.at hk
  exact ⟨b, o, rfl, hb, hc 0 _ rfl, hc 1 _ rfl, hc 2 _ rfl, hc 3 _ rfl, hc 4 _ rfl, hc 5 _ rfl, hc 6 _ rfl⟩

structure Pln where
  quo : List Int
  cons : List Con
def Pln.val (Aq : Option Addr) (cq : Nat) (Ac : Option Addr) (cc : Nat) (p : Pln) : Value := .agg #[.slice Aq p.quo.length cq, .slice Ac p.cons.length cc]
/-- The plan lies in memory. -/
structure PlnRd (w : World) (Aq : Option Addr) (cq : Nat) (Ac : Option Addr) (cc : Nat) (p : Pln) : Prop where
  q : Rd EInt w Aq p.quo
  c : Rd ECon w Ac p.cons
  qm : p.quo.length ≤ 1000000
  cm : p.cons.length ≤ 1000000
  qc : p.quo.length ≤ cq
  cc : p.cons.length ≤ cc
theorem PlnRd.ext {w w' : World} {Aq : Option Addr} {cq : Nat} {Ac : Option Addr} {cc : Nat} {p : Pln} (h : PlnRd w Aq cq Ac cc p) (hb : Ext w w') : PlnRd w' Aq cq Ac cc p :=
  ⟨h.q.ext hb, h.c.ext hb, h.qm, h.cm, h.qc, h.cc⟩

def quoB (q : Int) : Bool := decide (q < 0) || decide (1073741824 < q)
def Pln.chkC (n : Int) : List Con → List Con → Int
  | _, [] => 0
  | pre, c :: l => if c.check = 0 then (if n ≤ c.src ∨ n ≤ c.dst then 2 else if pre.any (fun d => c.overlapB d) then 14 else chkC n (pre ++ [c]) l) else c.check
def Pln.lim (p : Pln) : Bool := decide (p.quo.length < 1) || (decide (16 < p.quo.length) || decide (64 < p.cons.length))
/-- api.Errno of plan.Check: 0 OK, 1 ErrArgument, 2 ErrRange, 4 ErrLimit, 14 ErrOverlap. -/
def Pln.chk (p : Pln) : Int := if p.lim then 4 else if p.quo.any quoB then 2 else Pln.chkC p.quo.length [] p.cons

theorem Pln.chkC_step {n : Int} {l : List Con} {k : Nat} {c : Con} (h : k < l.length) (hc : l[k] = c) :
    Pln.chkC n (l.take k) (l.drop k) = if c.check = 0 then (if n ≤ c.src ∨ n ≤ c.dst then 2 else if (l.take k).any (fun d => c.overlapB d) then 14 else Pln.chkC n (l.take (k + 1)) (l.drop (k + 1))) else c.check := by
  rw [List.drop_eq_getElem_cons h, hc, take_snoc h hc]
  rfl
theorem overlap_comm (a b : Con) : a.overlapB b = b.overlapB a := by
  rw [Bool.eq_iff_iff]
  simp only [Con.overlapB, Bool.and_eq_true, decide_eq_true_eq]
  constructor
  · rintro ⟨⟨⟨⟨h1, h2⟩, h3⟩, h4⟩, h5⟩
    exact ⟨⟨⟨⟨h2, h1⟩, h3.symm⟩, h4.symm⟩, by omega⟩
  · rintro ⟨⟨⟨⟨h1, h2⟩, h3⟩, h4⟩, h5⟩
    exact ⟨⟨⟨⟨h2, h1⟩, h3.symm⟩, h4.symm⟩, by omega⟩

theorem Pln.chkC_mem {n : Int} : ∀ {pre l : List Con}, Pln.chkC n pre l = 0 → ∀ c ∈ l, c.Ok ∧ c.src < n ∧ c.dst < n
  | _, [], _, c, hc => by simp at hc
  | pre, x :: l, h, c, hc => by
    simp only [Pln.chkC] at h
    split at h
    · rename_i h0
      split at h
      · cases h
      · rename_i h1
        split at h
        · cases h
        · rcases List.mem_cons.1 hc with rfl | hc
          · exact ⟨(Con.check_iff c).1 h0, by omega, by omega⟩
          · exact Pln.chkC_mem h c hc
    · rename_i h0; exact absurd h h0
structure Pln.Ok (p : Pln) : Prop where
  n1 : 1 ≤ p.quo.length
  n16 : p.quo.length ≤ 16
  m64 : p.cons.length ≤ 64
  con : ∀ c ∈ p.cons, c.Ok ∧ c.src < p.quo.length ∧ c.dst < p.quo.length
theorem Pln.ok_of {p : Pln} (h : p.chk = 0) : p.Ok := by
  unfold Pln.chk at h
  split at h
  · cases h
  · rename_i h0
    simp only [Pln.lim, Bool.or_eq_true, decide_eq_true_eq] at h0
    split at h
    · cases h
    · exact ⟨by omega, by omega, by omega, Pln.chkC_mem h⟩

end Go.Proofs.Ytgmfnhianhngiaa
