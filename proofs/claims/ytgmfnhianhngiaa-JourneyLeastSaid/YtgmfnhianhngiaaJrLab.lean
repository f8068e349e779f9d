/- Layer 24 (journey): the plain laws of JourneyLabels and JourneyLeast. -/
import Derived.Test.YtgmfnhianhngiaaJrF
namespace Go.Proofs.Ytgmfnhianhngiaa
set_option linter.unusedVariables false
open Go.RowKit

def labH (m : List Int) (n : Int) (c : Con) : Bool := decide (0 ≤ gi m c.src) && (decide (earr c (gi m c.src) n ≠ -1) && (decide (gi m c.dst = earr c (gi m c.src) n) && decide (gi m c.src < earr c (gi m c.src) n)))
def labS (m : List Int) (n : Int) (rb : List Bool) (c : Con) : List Bool :=
  if 0 ≤ gi m c.src ∧ earr c (gi m c.src) n ≠ -1 then rb.set c.dst.toNat (gb rb c.dst || (decide (gi m c.dst = earr c (gi m c.src) n) && decide (gi m c.src < earr c (gi m c.src) n))) else rb
theorem labS_len (m : List Int) (n : Int) (rb : List Bool) (c : Con) : (labS m n rb c).length = rb.length := by
  unfold labS; split <;> simp
theorem labF_len (m : List Int) (n : Int) : ∀ (l : List Con) (rb : List Bool), (l.foldl (labS m n) rb).length = rb.length
  | [], _ => rfl
  | c :: l, rb => by rw [List.foldl_cons, labF_len m n l, labS_len]
theorem labS_gb {N : Nat} {m : List Int} {n : Int} {rb : List Bool} {c : Con} (hl : rb.length = N) (h0 : 0 ≤ c.dst) (h1 : c.dst < N) {i : Int} (hi : 0 ≤ i) : gb (labS m n rb c) i = (gb rb i || (labH m n c && decide (c.dst = i))) := by
  unfold labS labH
  split
  · rename_i h
    rw [gb_set (by omega)]
    by_cases e : i = c.dst
    · subst e
      simp [h.1, h.2]
    · rw [if_neg (by omega)]
      have : decide (c.dst = i) = false := by simp; omega
      simp [this]
  · rename_i h
    by_cases h2 : 0 ≤ gi m c.src
    · have h3 : earr c (gi m c.src) n = -1 := by
        apply Classical.byContradiction
        intro hh; exact h ⟨h2, hh⟩
      simp [h3]
    · simp [h2]
theorem labF_gb {N : Nat} {m : List Int} {n : Int} : ∀ (l : List Con) (rb : List Bool), rb.length = N → (∀ c ∈ l, 0 ≤ c.dst ∧ c.dst < N) → ∀ {i : Int}, 0 ≤ i → gb (l.foldl (labS m n) rb) i = (gb rb i || l.any (fun c => labH m n c && decide (c.dst = i)))
  | [], rb, _, _, i, _ => by simp
  | c :: l, rb, hl, hc, i, hi => by
    rw [List.foldl_cons, labF_gb l _ (by rw [labS_len]; exact hl) (fun x hx => hc x (by simp [hx])) hi, labS_gb hl (hc c (by simp)).1 (hc c (by simp)).2 hi, List.any_cons, Bool.or_assoc]
def labB (N : Nat) (src : Int) : List Bool := (List.replicate N false).set src.toNat true
theorem labB_len (N : Nat) (src : Int) : (labB N src).length = N := by simp [labB]
theorem gb_start {N : Nat} {src i : Int} (h0 : 0 ≤ src) (h1 : src < N) (hi : 0 ≤ i) : gb (labB N src) i = decide (i = src) := by
  unfold labB
  rw [gb_set (by simp; omega)]
  by_cases e : i = src
  · subst e; simp
  · rw [if_neg (by omega)]
    simp only [e, decide_false]
    unfold gb
    by_cases hh : i.toNat < N
    · simp [hh]
    · simp [hh]
/-- The law of the labels. -/
theorem lab_law {N : Nat} {cons : List Con} {n src t0 : Int} (J : JC N cons n src t0) {m : List Int} (h : Least N (RA cons n src t0) m) {i : Int} (hi : 0 ≤ i) (hN : i < N) :
    gb (cons.foldl (labS m n) (labB N src)) i = decide (0 ≤ gi m i) := by
  rw [labF_gb cons _ (labB_len _ _) (fun c hc => ⟨(J.con c hc).1.dst0, (J.con c hc).2.2⟩) hi, gb_start J.s0 J.s1 hi]
  rw [Bool.eq_iff_iff]
  simp only [Bool.or_eq_true, decide_eq_true_eq, List.any_eq_true, Bool.and_eq_true, labH]
  constructor
  · rintro (rfl | ⟨c, hc, ⟨h1, h2, h3, h4⟩, rfl⟩)
    · rw [h.srcT J]; exact J.r0
    · have := h.edge J hc h1 h2; exact this.1
  · intro h0
    rcases h.sup J h0 hi hN with ⟨e, _⟩ | ⟨c, hc, e1, e2, e3, e4⟩
    · exact .inl e
    · exact .inr ⟨c, hc, ⟨e2, by omega, by rw [e1]; exact e3.symm, by omega⟩, e1⟩
theorem labF_snoc {m : List Int} {n : Int} {rb : List Bool} {cons : List Con} {k : Nat} {y : Con} (h : k < cons.length) (hy : cons[k] = y) : (cons.take (k + 1)).foldl (labS m n) rb = labS m n ((cons.take k).foldl (labS m n) rb) y := by
  rw [take_snoc h hy, List.foldl_append]; rfl
/-- A step of a walk with whatever waiting. -/
theorem least_step {N : Nat} {cons : List Con} {n src t0 : Int} (J : JC N cons n src t0) {m : List Int} (h : Least N (RA cons n src t0) m) {c : Con} (hc : c ∈ cons) {t s : Int} (h0 : 0 ≤ gi m c.src) (ht : gi m c.src ≤ t) (hs : t ≤ s) (he : earr c s n ≠ -1) :
    0 ≤ gi m c.dst ∧ gi m c.dst ≤ earr c s n := by
  have h1 := earr_mono (J.con c hc).1 (show gi m c.src ≤ s by omega) J.n1 (Int.le_refl n) J.n2 he
  have h2 := h.edge J hc h0 h1.1
  omega

end Go.Proofs.Ytgmfnhianhngiaa
