/- Layer 26 (reach): the plain law of ReachWindows. -/
import Derived.Test.YtifopbkhflpbfaaRchM
import Derived.Test.YtifopbkhflpbfaaPlnA
namespace Go.Proofs.Ytifopbkhflpbfaa
set_option linter.unusedVariables false
open Go.RowKit

theorem RK.join {cons : List Con} {n src t0 x t1 t2 : Int} (hok : ∀ c ∈ cons, c.Ok) (h1 : 1 ≤ n) (hn2 : n ≤ 65536) (h : RA cons n src t0 x t1) (ht : t1 ≤ t2) {k : Nat} {i t : Int} (hk : RK cons n x t2 k i t) : ∃ t', t' ≤ t ∧ RA cons n src t0 i t' := by
  induction hk with
  | start k => exact ⟨t1, ht, h⟩
  | step h' hc hi he ih =>
    rename_i k i t c
    obtain ⟨t', h2, h3⟩ := ih
    have h4 := earr_mono (hok c hc) h2 h1 (Int.le_refl n) hn2 he
    exact ⟨earr c t' n, h4.2.2, h3.step hc hi h4.1⟩
theorem Pln.rch_iff {p : Pln} {src dst r d n : Int} (h : p.Ok) (hF : p.argF src r n = true) (d0 : 0 ≤ dst) (d1 : dst < p.quo.length) : p.rch src dst r d n = true ↔ dst = src ∨ ∃ t, t ≤ d ∧ RA p.cons n src r dst t := by
  have hl := Pln.arrs_least h hF
  have hs := hl.snd dst d0 d1
  unfold Pln.rch Pln.ear
  simp only [Bool.or_eq_true, Bool.and_eq_true, decide_eq_true_eq]
  constructor
  · rintro (e | ⟨e1, e2⟩)
    · exact .inl e
    · rcases hs with hs | hs
      · exact absurd hs e1
      · exact .inr ⟨_, e2, hs⟩
  · rintro (e | ⟨t, e1, e2⟩)
    · exact .inl e
    · have := hl.best _ _ e2
      exact .inr ⟨by omega, by omega⟩
/-- An earlier ready time, a later deadline, a lesser size. -/
theorem Pln.rch_mono {p : Pln} {src dst r r' d d' n n' : Int} (h : p.Ok) (s0 : 0 ≤ src) (s1 : src < p.quo.length) (d0 : 0 ≤ dst) (d1 : dst < p.quo.length) (r0 : 0 ≤ r') (hr : r' ≤ r) (r1 : r ≤ 1099511627776) (hd : d ≤ d') (n0 : 1 ≤ n') (hn : n' ≤ n) (n1 : n ≤ 65536) (hh : p.rch src dst r d n = true) : p.rch src dst r' d' n' = true := by
  have hF : p.argF src r n = true := by simp only [Pln.argF, decide_eq_true_eq]; omega
  have hF' : p.argF src r' n' = true := by simp only [Pln.argF, decide_eq_true_eq]; omega
  rw [Pln.rch_iff h hF d0 d1] at hh
  rw [Pln.rch_iff h hF' d0 d1]
  rcases hh with e | ⟨t, e1, k, e2⟩
  · exact .inl e
  · obtain ⟨t', h2, h3⟩ := e2.lower (fun c hc => (h.con c hc).1) (fun _ hc => hc) n0 hn n1 hr
    exact .inr ⟨t', by omega, k, h3⟩
/-- A node that reaches another one up to a time, from which on this reaches a third one. -/
theorem Pln.rch_join {p : Pln} {i k m r mid d n : Int} (h : p.Ok) (i0 : 0 ≤ i) (i1 : i < p.quo.length) (k0 : 0 ≤ k) (k1 : k < p.quo.length) (m0 : 0 ≤ m) (m1 : m < p.quo.length) (r0 : 0 ≤ r) (hr : r ≤ mid) (hd : mid ≤ d) (d2 : d ≤ 1099511627776) (n0 : 1 ≤ n) (n1 : n ≤ 65536) (h1 : p.rch i k r mid n = true) (h2 : p.rch k m mid d n = true) : p.rch i m r d n = true := by
  have hF : p.argF i r n = true := by simp only [Pln.argF, decide_eq_true_eq]; omega
  have hF' : p.argF k mid n = true := by simp only [Pln.argF, decide_eq_true_eq]; omega
  rw [Pln.rch_iff h hF k0 k1] at h1
  rw [Pln.rch_iff h hF' m0 m1] at h2
  rw [Pln.rch_iff h hF m0 m1]
  rcases h1 with rfl | ⟨t1, e1, e2⟩
  · rcases h2 with e | ⟨t, e1, q, e2⟩
    · exact .inl e
    · obtain ⟨t', h2, h3⟩ := e2.lower (fun c hc => (h.con c hc).1) (fun _ hc => hc) n0 (Int.le_refl n) n1 hr
      exact .inr ⟨t', by omega, q, h3⟩
  · rcases h2 with rfl | ⟨t, f1, q, f2⟩
    · exact .inr ⟨t1, by omega, e2⟩
    · obtain ⟨t', g1, g2⟩ := RK.join (fun c hc => (h.con c hc).1) n0 n1 e2 e1 f2
      exact .inr ⟨t', by omega, g2⟩

end Go.Proofs.Ytifopbkhflpbfaa
