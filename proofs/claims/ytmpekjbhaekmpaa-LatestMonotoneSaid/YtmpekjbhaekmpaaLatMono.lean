/- Layer 25 (latest): the plain law of LatestMonotone: the times stay below every larger fixpoint. -/
import Derived.Test.YtmpekjbhaekmpaaLatM1
namespace Go.Proofs.Ytmpekjbhaekmpaa
set_option linter.unusedVariables false
open Go.RowKit Go.Shelf

def Under (n : Nat) (m M : List Int) : Prop := ∀ i : Int, 0 ≤ i → i < n → gi m i ≤ gi M i

theorem lstep_under {n : Nat} {D dest size size' : Int} {s : Bool × List Int} {c : Con} {all : List Con} {M : List Int} (hc : c.Ok ∧ c.src < n ∧ c.dst < n) (hin : c ∈ all) (hM : LFix dest size' all M) (h0 : 1 ≤ size') (h1 : size' ≤ size) (h : LInv n D dest s.2) (hb : Under n s.2 M) :
    Under n (lstep dest size s c).2 M := by
  have hs0 := hc.1.src0
  have hd0 := hc.1.dst0
  have hrate := hc.1.rate0
  unfold lstep
  split
  · rename_i hh
    intro i hi0 hi1
    have hk : c.src.toNat < s.2.length := by rw [h.len]; omega
    show gi (s.2.set c.src.toNat _) i ≤ _
    rw [gi_set hk]
    split
    · have e : i = c.src := by omega
      subst e
      have hlo := h.lo _ (gi_mem (m := s.2) (i := c.dst) (by rw [h.len]; omega))
      have h2 := hb c.dst hd0 hc.2.2
      have h3 := lbeg_mono (c := c) (size := size) (size' := size') hc.1.st0 hlo h2 (Con.dur_mono hrate (by omega) h1)
      have h4 := hM c hin hh.1
      omega
    · exact hb i hi0 hi1
  · exact hb

theorem lfold_under {n : Nat} {D dest size size' : Int} {all : List Con} {M : List Int} (hsz : 1 ≤ size ∧ size ≤ 65536) (hd : 0 ≤ dest) (hM : LFix dest size' all M) (h0 : 1 ≤ size') (h1 : size' ≤ size) : ∀ (cons : List Con) (s : Bool × List Int), Cons n cons → (∀ c ∈ cons, c ∈ all) → LInv n D dest s.2 → Under n s.2 M → Under n (cons.foldl (lstep dest size) s).2 M
  | [], _, _, _, _, hb => hb
  | c :: cons, s, hc, hin, h, hb => by
    simp only [List.foldl_cons]
    exact lfold_under hsz hd hM h0 h1 cons _ (fun x hx => hc x (by simp [hx])) (fun x hx => hin x (by simp [hx])) (lstep_inv (hc c (by simp)) hsz hd h).1 (lstep_under (hc c (by simp)) (hin c (by simp)) hM h0 h1 h hb)

theorem liter_under {n : Nat} {D dest size size' : Int} {cons all : List Con} {M : List Int} (hsz : 1 ≤ size ∧ size ≤ 65536) (hd : 0 ≤ dest) (hc : Cons n cons) (hin : ∀ c ∈ cons, c ∈ all) (hM : LFix dest size' all M) (h0 : 1 ≤ size') (h1 : size' ≤ size) :
    ∀ (k : Nat) (m : List Int), LInv n D dest m → Under n m M → Under n (liter dest size cons k m) M
  | 0, m, _, hb => hb
  | k + 1, m, h, hb => by
    simp only [liter]
    split
    · exact liter_under hsz hd hc hin hM h0 h1 k _ (lpass_inv hsz hd hc h).1 (lfold_under hsz hd hM h0 h1 cons _ hc hin h hb)
    · exact hb

theorem lstart_under {n : Nat} {dest D D' : Int} {M : List Int} (hd : 0 ≤ dest ∧ dest < n) (hD : D ≤ D') (h : LInv n D' dest M) : Under n (lstart n dest D) M := by
  intro i h0 h1
  unfold lstart
  rw [gi_set (by simp; omega)]
  split
  · have e : i = dest := by omega
    rw [e, h.dst]; exact hD
  · have e : gi (List.replicate n (-1)) i = -1 := by
      rw [gi_of h0 (by simp; omega)]; simp
    rw [e]
    exact h.lo _ (gi_mem (by rw [h.len]; omega))

/-- The law: a later deadline, a lesser size, a plan that holds the contacts of the first. -/
theorem Pln.times_mono {p p' : Pln} {dest D D' size size' : Int} (h : p.Ok) (h' : p'.Ok) (hq : p'.quo.length = p.quo.length) (hin : ∀ c ∈ p.cons, c ∈ p'.cons) (ha : p.argB dest D size = true) (ha' : p'.argB dest D' size' = true) (hD : D ≤ D') (hs : size' ≤ size) :
    Under p.quo.length (p.times dest D size) (p'.times dest D' size') := by
  have hi := Pln.times_inv h' ha'
  have e := ha
  have e' := ha'
  simp only [Pln.argB, decide_eq_true_eq] at e e'
  rw [hq] at hi
  exact liter_under ⟨e.2.2.2.2.1, e.2.2.2.2.2⟩ e.1 h.con hin hi.2 e'.2.2.2.2.1 hs _ _ (lstart_inv ⟨e.1, e.2.1⟩ e.2.2.1) (lstart_under ⟨e.1, e.2.1⟩ hD hi.1)

end Go.Proofs.Ytmpekjbhaekmpaa
