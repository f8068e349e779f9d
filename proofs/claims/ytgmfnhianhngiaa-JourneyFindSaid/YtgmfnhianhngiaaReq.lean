/- Requests and hops as plain data. -/
import Derived.Test.YtgmfnhianhngiaaPln
import Derived.Test.YtgmfnhianhngiaaMem5
namespace Go.Proofs.Ytgmfnhianhngiaa
set_option linter.unusedVariables false
open Go.RowKit

structure Req where
  src : Int
  dst : Int
  size : Int
  ready : Int
  dead : Int
  prio : Int
  cust : Bool
def Req.cells (q : Req) : Array Value := #[.int .i64 q.src, .int .i64 q.dst, .int .i64 q.size, .int .i64 q.ready, .int .i64 q.dead, .int .i64 q.prio, .bool q.cust]
def Req.val (q : Req) : Value := .agg #[.int .i64 q.src, .int .i64 q.dst, .int .i64 q.size, .int .i64 q.ready, .int .i64 q.dead, .int .i64 q.prio, .bool q.cust]
/-- A request that is valid for a plan with n nodes. -/
def Req.okB (q : Req) (n : Nat) : Bool :=
  decide (0 ≤ q.src ∧ q.src < n ∧ 0 ≤ q.dst ∧ q.dst < n ∧ q.src ≠ q.dst ∧ 1 ≤ q.size ∧ q.size ≤ 65536 ∧ 0 ≤ q.ready ∧ q.ready ≤ q.dead ∧ q.dead ≤ 1099511627776 ∧ 0 ≤ q.prio ∧ q.prio ≤ 2)

structure Hp where
  con : Int
  beg : Int
  en : Int
  arr : Int
def Hp.cells (h : Hp) : List Value := [.int .i64 h.con, .int .i64 h.beg, .int .i64 h.en, .int .i64 h.arr]
def Hp.val (h : Hp) : Value := .agg #[.int .i64 h.con, .int .i64 h.beg, .int .i64 h.en, .int .i64 h.arr]
def EHp : Elt Hp := ⟨Hp.cells, 4, fun _ => rfl, by omega, fun x u hu => by simp [Hp.cells] at hu; rcases hu with h | h | h | h <;> subst h <;> rfl⟩
theorem Rd.hp {w : World} {A : Option Addr} {l : List Hp} (h : Rd EHp w A l) {k : Nat} (hk : k < l.length) : ∃ b o, A = some ⟨b, o, none⟩ ∧ b < w.heap.size ∧
    w.cell? ⟨b, o + k * 4, none⟩ = some (.int .i64 l[k].con) ∧ w.cell? ⟨b, o + k * 4 + 1, none⟩ = some (.int .i64 l[k].beg) ∧ w.cell? ⟨b, o + k * 4 + 2, none⟩ = some (.int .i64 l[k].en) ∧ w.cell? ⟨b, o + k * 4 + 3, none⟩ = some (.int .i64 l[k].arr) := by
  obtain ⟨b, o, rfl, hb, hc⟩ := h.at hk
  exact ⟨b, o, rfl, hb, hc 0 _ rfl, hc 1 _ rfl, hc 2 _ rfl, hc 3 _ rfl⟩
def hpEq (x y : Hp) : Bool := x.con == y.con && (x.beg == y.beg && (x.en == y.en && x.arr == y.arr))
theorem hpEq_iff {x y : Hp} : hpEq x y = true ↔ x = y := by
  obtain ⟨a, b, c, d⟩ := x
  obtain ⟨a', b', c', d'⟩ := y
  simp [hpEq]
def eqLB {α : Type} (f : α → α → Bool) : List α → List α → Bool
  | [], [] => true
  | x :: l, y :: m => f x y && eqLB f l m
  | _, _ => false
theorem eqLB_step {α : Type} {f : α → α → Bool} {l m : List α} {k : Nat} (h1 : k < l.length) (h2 : k < m.length) : eqLB f (l.drop k) (m.drop k) = (f l[k] m[k] && eqLB f (l.drop (k + 1)) (m.drop (k + 1))) := by
  rw [List.drop_eq_getElem_cons h1, List.drop_eq_getElem_cons h2]
  rfl
theorem eqLB_len {α : Type} {f : α → α → Bool} : ∀ {l m : List α}, l.length ≠ m.length → eqLB f l m = false
  | [], [], h => absurd rfl h
  | [], _ :: _, _ => rfl
  | _ :: _, [], _ => rfl
  | x :: l, y :: m, h => by
    have := eqLB_len (f := f) (l := l) (m := m) (by simpa using h)
    simp [eqLB, this]
theorem eqLB_refl {α : Type} {f : α → α → Bool} (hf : ∀ x, f x x = true) : ∀ l : List α, eqLB f l l = true
  | [] => rfl
  | x :: l => by simp [eqLB, hf, eqLB_refl hf l]

/-- A list and an error number. -/
def RetA {α : Type} (E : Elt α) (w : World) (out : List α) (k : Int) (e : Ending) (w' : World) : Prop :=
  ∃ A c, e = .returned (.tuple #[.slice A out.length c, .int .i64 k]) ∧ Rd E w' A out ∧ Ext w w' ∧ out.length ≤ c

end Go.Proofs.Ytgmfnhianhngiaa
