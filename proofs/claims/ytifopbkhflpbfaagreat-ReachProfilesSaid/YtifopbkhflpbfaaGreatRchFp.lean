/- Layer 26 (reach): the plain law of ReachFastest. -/
import Derived.Test.YtifopbkhflpbfaaGreatRchV
import Derived.Test.YtifopbkhflpbfaaGreatLatW6
import Derived.Test.YtifopbkhflpbfaaGreatPlnA
namespace Go.Proofs.YtifopbkhflpbfaaGreat
set_option linter.unusedVariables false
open Go.RowKit

/-- The best span is that of a step, and no step has a lesser one. -/
theorem bstp_fold : ∀ (l : List Stp) (b : Int × Int), ((l.foldl bstp b).2 - (l.foldl bstp b).1 ≤ b.2 - b.1 ∧ ∀ s ∈ l, (l.foldl bstp b).2 - (l.foldl bstp b).1 ≤ s.val - s.til) ∧ (l.foldl bstp b = b ∨ ∃ s ∈ l, l.foldl bstp b = (s.til, s.val))
  | [], b => by simp
  | x :: l, b => by
    obtain ⟨⟨h1, h2⟩, h3⟩ := bstp_fold l (bstp b x)
    rw [List.foldl_cons]
    have hb : ((bstp b x).2 - (bstp b x).1 ≤ b.2 - b.1 ∧ (bstp b x).2 - (bstp b x).1 ≤ x.val - x.til) ∧ (bstp b x = b ∨ bstp b x = (x.til, x.val)) := by
      unfold bstp
      split
      · exact ⟨⟨by dsimp only; omega, by dsimp only; omega⟩, .inr rfl⟩
      · exact ⟨⟨by omega, by omega⟩, .inl rfl⟩
    refine ⟨⟨by omega, fun s hs => ?_⟩, ?_⟩
    · rcases List.mem_cons.1 hs with rfl | hs
      · omega
      · exact h2 s hs
    · rcases h3 with h3 | ⟨s, hs, h3⟩
      · rcases hb.2 with h4 | h4
        · exact .inl (h3.trans h4)
        · exact .inr ⟨x, by simp, h3.trans h4⟩
      · exact .inr ⟨s, by simp [hs], h3⟩
theorem bestS_law {l : List Stp} (h : l ≠ []) : (∀ s ∈ l, (bestS l).2 - (bestS l).1 ≤ s.val - s.til) ∧ ∃ s ∈ l, bestS l = (s.til, s.val) := by
  cases l with
  | nil => exact absurd rfl h
  | cons x l =>
    obtain ⟨⟨h1, h2⟩, h3⟩ := bstp_fold l (x.til, x.val)
    show (∀ s ∈ x :: l, (l.foldl bstp (x.til, x.val)).2 - (l.foldl bstp (x.til, x.val)).1 ≤ s.val - s.til) ∧ ∃ s ∈ x :: l, l.foldl bstp (x.til, x.val) = (s.til, s.val)
    refine ⟨fun s hs => ?_, ?_⟩
    · rcases List.mem_cons.1 hs with rfl | hs
      · exact h1
      · exact h2 s hs
    · rcases h3 with h3 | ⟨s, hs, h3⟩
      · exact ⟨x, by simp, h3⟩
      · exact ⟨s, by simp [hs], h3⟩

def arrL (now : Int) (l : List Hp) : Int := l.foldl (fun _ h => h.arr) now
theorem arrL_snoc (now : Int) (l : List Hp) (x : Hp) : arrL now (l ++ [x]) = x.arr := by simp [arrL]
/-- Hops that pass the check are a way. -/
theorem chkL_ra {N : Nat} {cons : List Con} {n dest D s r : Int} (hC : Cons N cons) (h1 : 1 ≤ n) (h2 : n ≤ 65536) : ∀ {l : List Hp} {a now t0 : Int} {seen : List Int}, chkL cons n dest D a now seen l = 0 → RA cons n s r a t0 → t0 ≤ now → ∃ t, RA cons n s r dest t ∧ t ≤ arrL now l
  | [], a, now, t0, seen, h, hr, ht => by
    simp only [chkL] at h
    split at h
    · omega
    · rename_i e
      have : a = dest := Classical.byContradiction e
      subst this
      exact ⟨t0, hr, ht⟩
  | x :: l, a, now, t0, seen, h, hr, ht => by
    simp only [chkL] at h
    split at h
    · omega
    rename_i g0
    split at h
    · omega
    rename_i g1
    split at h
    · omega
    split at h
    · omega
    rename_i g2
    split at h
    · omega
    rename_i g3
    split at h
    · omega
    rename_i g4
    have hlt : x.con.toNat < cons.length := by omega
    have hm : gc cons x.con ∈ cons := by rw [gc_get hlt]; exact List.getElem_mem hlt
    generalize gc cons x.con = c at *
    have hok := hC c hm
    have hf : c.fitsB x.beg n = true := by simpa using g3
    have hf2 := hf
    simp only [Con.fitsB, decide_eq_true_eq] at hf2
    have hbeg : c.beg x.beg = x.beg := by unfold Con.beg; rw [if_neg (by omega)]
    have he : earr c x.beg n = x.arr := by
      unfold earr
      rw [hbeg, if_pos hf]
      omega
    have hne : earr c x.beg n ≠ -1 := by
      have d := Con.dur_bd hok.1 h1 h2
      have := hok.1.rng0
      have := hok.1.st0
      omega
    have hmn := earr_mono hok.1 (show t0 ≤ x.beg by omega) h1 (Int.le_refl n) h2 hne
    have hsr : c.src = a := Classical.byContradiction g1
    have hle : earr c t0 n ≤ x.arr := by omega
    have := chkL_ra (now := x.arr) (l := l) (t0 := earr c t0 n) hC h1 h2 h (hr.step hm hsr hmn.1) hle
    exact this
theorem chkL_now {cons : List Con} {n dest D a now : Int} {seen : List Int} {x : Hp} {l : List Hp} (h : chkL cons n dest D a now seen (x :: l) = 0) : chkL cons n dest D a x.beg seen (x :: l) = 0 ∧ now ≤ x.beg ∧ x.beg ≤ 1099511627776 ∨ ¬ (∀ c ∈ cons, c.Ok ∧ 1 ≤ n ∧ n ≤ 65536) := by
  by_cases hall : ∀ c ∈ cons, c.Ok ∧ 1 ≤ n ∧ n ≤ 65536
  · left
    simp only [chkL] at h ⊢
    split at h
    · omega
    rename_i g0
    rw [if_neg g0]
    split at h
    · omega
    rename_i g1
    rw [if_neg g1]
    split at h
    · omega
    rename_i g5
    rw [if_neg g5]
    split at h
    · omega
    rename_i g2
    rw [if_neg (by omega)]
    split at h
    · omega
    rename_i g3
    rw [if_neg g3]
    have hlt : x.con.toNat < cons.length := by omega
    have hm : gc cons x.con ∈ cons := by rw [gc_get hlt]; exact List.getElem_mem hlt
    have ho := hall _ hm
    have hf2 : (gc cons x.con).fitsB x.beg n = true := by simpa using g3
    simp only [Con.fitsB, decide_eq_true_eq] at hf2
    have d := Con.dur_bd ho.1 ho.2.1 ho.2.2
    have e1 := ho.1.en1
    have e2 := ho.1.rng0
    exact ⟨h, by omega, by omega⟩
  · exact .inr hall

section
variable {p : Pln} {src dst n : Int}
/-- A journey, from the begin of its first hop on. -/
theorem PA.journey (h : PA p src dst n) {D now : Int} {seen : List Int} {x : Hp} {l : List Hp} (hnow : 0 ≤ now) (hc : chkL p.cons n dst D src now seen (x :: l) = 0) :
    0 ≤ x.beg ∧ x.beg ≤ 1099511627776 ∧ p.ear src dst n x.beg ≠ -1 ∧ p.ear src dst n x.beg ≤ arrL now (x :: l) ∧ p.ear src dst n 0 ≠ -1 := by
  rcases chkL_now hc with ⟨h1, h2, h3⟩ | h1
  · obtain ⟨t, h4, h5⟩ := chkL_ra h.ok.con h.n0 h.n1 h1 (RA.start (n := n) (src := src) (t0 := x.beg)) (Int.le_refl _)
    obtain ⟨t', h6, h7⟩ := chkL_ra h.ok.con h.n0 h.n1 hc (RA.start (n := n) (src := src) (t0 := 0)) hnow
    have h8 := (h.least (t := x.beg) (by omega) h3).best _ _ h4
    have h9 := (h.least (t := 0) (by omega) (by omega)).best _ _ h6
    have e : arrL x.beg (x :: l) = arrL now (x :: l) := rfl
    unfold Pln.ear
    exact ⟨by omega, h3, by omega, by omega, by omega⟩
  · exact absurd (fun c hc => ⟨(h.ok.con c hc).1, h.n0, h.n1⟩) h1
/-- No journey takes less time than the best step. -/
theorem Chn.fastest (h : PA p src dst n) {l : List Stp} {t : Int} (hc : Chn p src dst n l t) (hs : p.stopAt src dst n t) {D now : Int} {seen : List Int} {x : Hp} {hp : List Hp} (hnow : 0 ≤ now) (hk : chkL p.cons n dst D src now seen (x :: hp) = 0) :
    l ≠ [] ∧ (bestS l).2 - (bestS l).1 ≤ arrL now (x :: hp) - x.beg := by
  obtain ⟨b0, b1, b2, b3, b4⟩ := h.journey hnow hk
  have hrg := hc.rng h
  have hlt : x.beg < t := by
    apply Classical.byContradiction
    intro hh
    exact b2 (stop_ear h hrg.1 hrg.2.1 hs (by omega) b1)
  obtain ⟨i, s, hi, g1, g2⟩ := hc.cover h x.beg b0 hlt
  have hm := List.mem_of_getElem? hi
  have hne : l ≠ [] := by intro e; subst e; simp at hm
  have hv := hc.vals h s hm
  obtain ⟨a1, a2, a3, a4, a5, a6, a7, a8⟩ := hv
  have := a8 x.beg g1 g2
  have := (bestS_law hne).1 s hm
  exact ⟨hne, by omega⟩
theorem Chn.best (h : PA p src dst n) {l : List Stp} {t : Int} (hc : Chn p src dst n l t) (hn : l ≠ []) : 0 ≤ (bestS l).1 ∧ (bestS l).1 + 2 ≤ (bestS l).2 ∧ (bestS l).2 ≤ 1099511627776 ∧ (bestS l).1 = p.lat src dst n (bestS l).2 := by
  obtain ⟨s, hs, e⟩ := (bestS_law hn).2
  have hv := hc.vals h s hs
  obtain ⟨a1, a2, a3, a4, a5, a6, a7, a8⟩ := hv
  rw [e]
  dsimp only
  exact ⟨by omega, by omega, by omega, a7⟩
end
theorem LPath.arr {N : Nat} {cons : List Con} {m : List Int} {dest size a : Int} {l : List Hp} (hC : Cons N cons) (hsz : 1 ≤ size ∧ size ≤ 65536) (h : LPath cons m dest size a l) (ha : 0 ≤ gi m a) : a ≠ dest → l ≠ [] ∧ (∀ x, l.getLast? = some x → x.arr ≤ gi m dest) ∧ ∀ x, l.head? = some x → x.beg = gi m a := by
  induction h with
  | done => intro hne; exact absurd rfl hne
  | step h1 h2 h3 ih =>
    rename_i a i c l
    intro _
    have hf := findC_some h2
    have hl := lans_fits hC hsz hf.1 hf.2.1 ha
    obtain ⟨l1, l2, l3, l4, l5, l6, l7, l8⟩ := hl
    refine ⟨by simp, fun x hx => ?_, fun x hx => ?_⟩
    · by_cases e : c.dst = dest
      · have : l = [] := by
          cases h3 with
          | done => rfl
          | step g1 => exact absurd e g1
        subst this
        simp only [List.getLast?_singleton, Option.some.injEq] at hx
        subst hx
        rw [← e]
        simp only [hopOf]
        omega
      · have := ih (by omega) e
        cases l with
        | nil => exact absurd rfl this.1
        | cons y l => exact this.2.1 x (by rw [← hx]; simp [List.getLast?_cons_cons])
    · simp only [List.head?_cons, Option.some.injEq] at hx
      subst hx
      rfl

end Go.Proofs.YtifopbkhflpbfaaGreat
