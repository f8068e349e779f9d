/- Layer 24 (journey): the plain law of JourneyMonotone. -/
import Derived.Test.YtgmfnhianhngiaaJrF
namespace Go.Proofs.Ytgmfnhianhngiaa
set_option linter.unusedVariables false
open Go.RowKit

theorem RK.lower {cons cons' : List Con} {n n' src t0 t0' : Int} (hok : ∀ c ∈ cons, c.Ok) (hsub : ∀ c ∈ cons, c ∈ cons') (h1 : 1 ≤ n') (hn : n' ≤ n) (hn2 : n ≤ 65536) (ht : t0' ≤ t0) {k : Nat} {i t : Int} (h : RK cons n src t0 k i t) : ∃ t', t' ≤ t ∧ RK cons' n' src t0' k i t' := by
  induction h with
  | start k => exact ⟨t0', ht, .start k⟩
  | step h hc hi he ih =>
    rename_i k i t c
    obtain ⟨t', h2, h3⟩ := ih
    have h4 := earr_mono (hok c hc) h2 h1 hn hn2 he
    exact ⟨earr c t' n', h4.2.2, .step h3 (hsub c hc) hi h4.1⟩
/-- The law: an earlier start, a lesser size, a plan that holds the contacts of the first. -/
theorem Pln.arrs_mono {p p' : Pln} {src t0 t0' n n' : Int} (h : p.Ok) (h' : p'.Ok) (hq : p'.quo.length = p.quo.length) (hsub : ∀ c ∈ p.cons, c ∈ p'.cons) (ha : p.argF src t0 n = true) (ha' : p'.argF src t0' n' = true) (ht : t0' ≤ t0) (hn : n' ≤ n) {i : Int} (h0 : 0 ≤ i) (hN : i < p.quo.length) (hg : 0 ≤ gi (p.arrs src t0 n) i) :
    0 ≤ gi (p'.arrs src t0' n') i ∧ gi (p'.arrs src t0' n') i ≤ gi (p.arrs src t0 n) i := by
  have hl := Pln.arrs_least h ha
  have hl' := Pln.arrs_least h' ha'
  have J := Pln.jc h ha
  have J' := Pln.jc h' ha'
  rcases hl.snd i h0 hN with e | ⟨k, e⟩
  · omega
  · obtain ⟨t', h2, h3⟩ := e.lower (fun c hc => (J.con c hc).1) hsub J'.n1 hn J.n2 ht
    have h4 := hl'.best i t' ⟨k, h3⟩
    omega

end Go.Proofs.Ytgmfnhianhngiaa
