
/- Layer 25 (latest): Slack; the latest journeys, and how one grows. -/
import Derived.Test.YtmaengcmhopmbaaGreatLatW5

/- Layer 25 (latest): the walks of both functions Slack. -/
namespace Go.Proofs.YtmaengcmhopmbaaGreat
set_option linter.unusedVariables false
open Go.RowKit Go.Shelf

theorem Pln.ofE_zero {p : Pln} {q : Req} (h : p.ofE q = 0) : p.chk = 0 ∧ q.okB p.quo.length = true ∧ q.ready ≤ gi (p.fixT q) q.src := by
  unfold Pln.ofE at h
  split at h
  · rename_i h0
    split at h
    · rename_i h1
      split at h
      · cases h
      · exact ⟨h0, h1, by omega⟩
    · cases h
  · cases h
theorem Pln.fix_inv {p : Pln} {q : Req} (h : p.chk = 0) (hq : q.okB p.quo.length = true) : LInv p.quo.length q.dead q.dst (p.fixT q) ∧ LFix q.dst q.size p.cons (p.fixT q) := Pln.times_inv (Pln.ok_of h) (Req.argB hq)
def Pln.slackT (p : Pln) (q : Req) : Int := if p.ofE q = 0 then gi (p.fixT q) q.src - q.ready else 0

end Go.Proofs.YtmaengcmhopmbaaGreat

/- Layer 25 (latest): the latest journeys, and how one grows. -/
namespace Go.Proofs.YtmaengcmhopmbaaGreat
set_option linter.unusedVariables false
open Go.RowKit Go.Shelf

/-- The first contact that answers, with its place. -/
def findC (P : Con → Bool) : Nat → List Con → Option (Nat × Con)
  | _, [] => none
  | k, c :: l => if P c then some (k, c) else findC P (k + 1) l
theorem findC_drop {P : Con → Bool} {l : List Con} {k : Nat} {y : Con} (h : k < l.length) (hy : l[k] = y) : findC P k (l.drop k) = if P y then some (k, y) else findC P (k + 1) (l.drop (k + 1)) := by
  rw [List.drop_eq_getElem_cons h, hy]; rfl
theorem findC_none {P : Con → Bool} : ∀ {l : List Con} {k : Nat}, findC P k l = none → ∀ c ∈ l, P c = false
  | [], _, _, c, hc => by simp at hc
  | x :: l, k, h, c, hc => by
    simp only [findC] at h
    split at h
    · cases h
    · rename_i hx
      rcases List.mem_cons.1 hc with rfl | hc
      · simpa using hx
      · exact findC_none h c hc
theorem findC_some {P : Con → Bool} : ∀ {l : List Con} {k i : Nat} {c : Con}, findC P k l = some (i, c) → c ∈ l ∧ P c = true ∧ k ≤ i ∧ i < k + l.length ∧ l[i - k]? = some c
  | [], _, _, _, h => by cases h
  | x :: l, k, i, c, h => by
    simp only [findC] at h
    split at h
    · rename_i hx
      injection h with h
      injection h with h1 h2
      subst h1 h2
      simp [hx]
    · have := findC_some h
      refine ⟨List.mem_cons_of_mem _ this.1, this.2.1, by omega, by simp only [List.length_cons]; omega, ?_⟩
      rw [show i - k = (i - (k + 1)) + 1 by omega]
      simpa using this.2.2.2.2

def lans (m : List Int) (size a : Int) (c : Con) : Bool := c.src == a && lbeg c (gi m c.dst) size == gi m a
def hopOf (i : Nat) (c : Con) (t size : Int) : Hp := ⟨i, t, t + c.dur size, t + c.dur size + c.rng⟩
/-- The latest journey from a node. -/
inductive LPath (cons : List Con) (m : List Int) (dest size : Int) : Int → List Hp → Prop where
  | done : LPath cons m dest size dest []
  | step {a : Int} {i : Nat} {c : Con} {l : List Hp} : a ≠ dest → findC (lans m size a) 0 cons = some (i, c) → LPath cons m dest size c.dst l → LPath cons m dest size a (hopOf i c (gi m a) size :: l)
theorem LPath.unique {cons : List Con} {m : List Int} {dest size a : Int} {l l' : List Hp} (h : LPath cons m dest size a l) : LPath cons m dest size a l' → l = l' := by
  induction h generalizing l' with
  | done =>
    intro h
    cases h with
    | done => rfl
    | step h1 => exact absurd rfl h1
  | step h1 h2 _ ih =>
    intro h
    cases h with
    | done => exact absurd rfl h1
    | step g1 g2 g3 =>
      rw [h2] at g2
      injection g2 with g2
      injection g2 with e1 e2
      subst e1 e2
      rw [ih g3]

/-- The contact that is found from a node. -/
theorem lans_fits {n : Nat} {size : Int} {cons : List Con} {m : List Int} {a : Int} {c : Con} (hc : Cons n cons) (hsz : 1 ≤ size ∧ size ≤ 65536) (hin : c ∈ cons) (hp : lans m size a c = true) (h0 : 0 ≤ gi m a) :
    c.src = a ∧ gi m a = lbeg c (gi m c.dst) size ∧ c.st ≤ gi m a ∧ gi m a ≤ c.en - c.dur size ∧ gi m a + c.dur size + c.rng ≤ gi m c.dst ∧ 0 ≤ c.dst ∧ c.dst < n ∧ gi m a + 2 ≤ gi m c.dst := by
  simp only [lans, Bool.and_eq_true, beq_iff_eq] at hp
  have hok := hc c hin
  have d := Con.dur_bd hok.1 hsz.1 hsz.2
  have := hok.1.rng0
  have h1 := hok.1.dst0
  have h2 := hok.2.2
  rcases lbeg_cases c (gi m c.dst) size with h | ⟨_, h, h3, h4, _⟩ <;> omega
theorem LPath.found {p : Pln} {dest D size : Int} (h : p.Ok) (ha : p.argB dest D size = true) {a : Int} (h0 : 0 ≤ a) (hn : a < p.quo.length) (hne : a ≠ dest) (hg : 0 ≤ gi (p.times dest D size) a) :
    ∃ i c, findC (lans (p.times dest D size) size a) 0 p.cons = some (i, c) := by
  obtain ⟨c, hc, e1, e2⟩ := Pln.times_sup h ha h0 hn hne hg
  cases hf : findC (lans (p.times dest D size) size a) 0 p.cons with
  | none =>
    have := findC_none hf c hc
    simp [lans, e1, e2] at this
  | some x => exact ⟨x.1, x.2, rfl⟩

/-- What Find returns. -/
def FindP (p : Pln) (q : Req) (w : World) (e : Ending) (w' : World) : Prop :=
  ∃ l : List Hp, RetA EHp w l (p.ofE q) e w' ∧ l.length ≤ 1099511627776 ∧ if p.ofE q = 0 then LPath p.cons (p.fixT q) q.dst q.size q.src l else l = []

end Go.Proofs.YtmaengcmhopmbaaGreat
