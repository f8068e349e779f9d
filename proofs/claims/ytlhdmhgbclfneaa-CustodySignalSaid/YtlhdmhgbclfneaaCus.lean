/- Layer 44 (custody): offers as plain data, their order, and what the functions compute, without a program. -/
import Derived.Test.YtlhdmhgbclfneaaMem
namespace Go.Proofs.Ytlhdmhgbclfneaa
set_option linter.unusedVariables false
open Go.RowKit

structure Bid where
  a : Int
  b : Int
  c : Int
  d : Int
  e : Int
structure Off where
  id : Bid
  con : Int
  due : Int
  tries : Int

def Bid.val (x : Bid) : Value := .agg #[.int .i64 x.a, .int .i64 x.b, .int .i64 x.c, .int .i64 x.d, .int .i64 x.e]
def Bid.ints (x : Bid) : List Int := [x.a, x.b, x.c, x.d, x.e]
def Off.val (x : Off) : Value := .agg #[.int .i64 x.id.a, .int .i64 x.id.b, .int .i64 x.id.c, .int .i64 x.id.d, .int .i64 x.id.e, .int .i64 x.con, .int .i64 x.due, .int .i64 x.tries]
def Off.cells (x : Off) : List Value := [.int .i64 x.id.a, .int .i64 x.id.b, .int .i64 x.id.c, .int .i64 x.id.d, .int .i64 x.id.e, .int .i64 x.con, .int .i64 x.due, .int .i64 x.tries]
def EOff : Elt Off := ⟨Off.cells, 8, fun _ => rfl, by omega, fun x u hu => by simp [Off.cells] at hu; rcases hu with h | h | h | h | h | h | h | h <;> subst h <;> rfl⟩

def Bid.ok (x : Bid) : Bool := decide (0 ≤ x.a ∧ x.a < 16 ∧ 0 ≤ x.b ∧ x.b ≤ 1099511627776 ∧ 0 ≤ x.c ∧ x.c ≤ 1099511627776 ∧ (x.d = 0 ∧ x.e = 0 ∨ 1 ≤ x.e ∧ x.e ≤ 4096 ∧ 0 ≤ x.d ∧ x.d < x.e))
def Off.ok (x : Off) : Bool := x.id.ok && decide (0 ≤ x.con ∧ x.con < 64 ∧ 0 ≤ x.due ∧ x.due ≤ 1099511627777 ∧ 0 ≤ x.tries ∧ x.tries ≤ 1152921504606846976)
def Off.key (x : Off) : List Int := [x.id.a, x.id.b, x.id.c, x.id.d, x.id.e, x.con]

/-- cmp.Compare of two numbers. -/
def cmpI (x y : Int) : Int := if x < y then -1 else if y < x then 1 else 0
/-- Lists of one length, compared from the left. -/
def lexC : List Int → List Int → Int
  | x :: xs, y :: ys => if cmpI x y = 0 then lexC xs ys else cmpI x y
  | _, _ => 0

theorem cmpI_zero {x y : Int} : cmpI x y = 0 ↔ x = y := by unfold cmpI; split <;> (try split) <;> omega
theorem cmpI_neg (x y : Int) : cmpI y x = - cmpI x y := by unfold cmpI; split <;> split <;> (try split) <;> omega
theorem cmpI_bd (x y : Int) : -1 ≤ cmpI x y ∧ cmpI x y ≤ 1 := by unfold cmpI; split <;> (try split) <;> omega
theorem lexC_neg : ∀ l m : List Int, lexC m l = - lexC l m
  | [], [] => rfl
  | [], _ :: _ => rfl
  | _ :: _, [] => rfl
  | x :: l, y :: m => by
    simp only [lexC]
    rw [cmpI_neg x y, lexC_neg l m]
    by_cases h : cmpI x y = 0 <;> simp [h]
theorem lexC_bd : ∀ l m : List Int, -1 ≤ lexC l m ∧ lexC l m ≤ 1
  | [], [] => by simp [lexC]
  | [], _ :: _ => by simp [lexC]
  | _ :: _, [] => by simp [lexC]
  | x :: l, y :: m => by
    simp only [lexC]
    split
    · exact lexC_bd l m
    · exact cmpI_bd x y
theorem lexC_zero : ∀ l m : List Int, l.length = m.length → (lexC l m = 0 ↔ l = m)
  | [], [], _ => by simp [lexC]
  | x :: l, y :: m, h => by
    simp only [lexC]
    have ih := lexC_zero l m (by simpa using h)
    by_cases hc : cmpI x y = 0
    · rw [if_pos hc, ih, cmpI_zero.1 hc]; simp
    · rw [if_neg hc]
      constructor
      · intro h; exact absurd h hc
      · intro h; simp at h; exact absurd (cmpI_zero.2 h.1) hc

end Go.Proofs.Ytlhdmhgbclfneaa
