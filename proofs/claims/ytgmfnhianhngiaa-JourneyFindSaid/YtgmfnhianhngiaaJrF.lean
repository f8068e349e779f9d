/- Layer 24 (journey): journeys as plain data. -/
import Derived.Test.YtgmfnhianhngiaaJr
import Derived.Test.YtgmfnhianhngiaaReq
namespace Go.Proofs.Ytgmfnhianhngiaa
set_option linter.unusedVariables false
open Go.RowKit

/-- The hop over the contact i that begins as early as possible. -/
def hopAt (i : Nat) (c : Con) (t n : Int) : Hp := ⟨i, c.beg t, c.beg t + c.dur n, c.beg t + c.dur n + c.rng⟩
def hopR (i : Nat) (c : Con) (t n : Int) : Hp := if earr c t n = -1 then ⟨0, 0, 0, 0⟩ else hopAt i c t n
theorem hopAt_arr {i : Nat} {c : Con} {t n : Int} (he : earr c t n ≠ -1) : (hopAt i c t n).arr = earr c t n := by
  unfold earr at he ⊢
  split
  · rfl
  · rename_i h; rw [if_neg h] at he; exact absurd rfl he

/-- A contact that leads to a node at a time. -/
def cand (f : List Int) (n node time : Int) (c : Con) : Bool := decide (c.dst = node ∧ 0 ≤ gi f c.src ∧ earr c (gi f c.src) n ≠ -1 ∧ earr c (gi f c.src) n = time)
def better (f : List Int) (c : Con) : Option (Nat × Con) → Bool
  | none => true
  | some d => decide (gi f c.src < gi f d.2.src)
def bstep (f : List Int) (n node time : Int) (i : Nat) (c : Con) (b : Option (Nat × Con)) : Option (Nat × Con) := if cand f n node time c && better f c b then some (i, c) else b
def bestC (f : List Int) (n node time : Int) : Nat → List Con → Option (Nat × Con) → Option (Nat × Con)
  | _, [], b => b
  | i, c :: l, b => bestC f n node time (i + 1) l (bstep f n node time i c b)
def lastC (f : List Int) (n node time : Int) (cons : List Con) : Option (Nat × Con) := bestC f n node time 0 cons none
theorem bestC_drop {f : List Int} {n node time : Int} {l : List Con} {k : Nat} {y : Con} {b : Option (Nat × Con)} (h : k < l.length) (hy : l[k] = y) :
    bestC f n node time k (l.drop k) b = bestC f n node time (k + 1) (l.drop (k + 1)) (bstep f n node time k y b) := by
  rw [List.drop_eq_getElem_cons h, hy]; rfl
theorem bestC_some {f : List Int} {n node time : Int} {cons : List Con} : ∀ (l : List Con) (k : Nat) (b : Option (Nat × Con)), l = cons.drop k → (∀ i c, b = some (i, c) → cons[i]? = some c ∧ cand f n node time c = true) →
    ∀ i c, bestC f n node time k l b = some (i, c) → cons[i]? = some c ∧ cand f n node time c = true
  | [], _, _, _, hb, i, c, h => hb i c h
  | x :: l, k, b, hl, hb, i, c, h => by
    simp only [bestC] at h
    have hk : k < cons.length := by
      apply Classical.byContradiction
      intro hh
      rw [List.drop_eq_nil_of_le (by omega)] at hl
      cases hl
    rw [List.drop_eq_getElem_cons hk] at hl
    injection hl with h1 h2
    refine bestC_some l (k + 1) _ h2 (fun j d hj => ?_) i c h
    unfold bstep at hj
    split at hj
    · rename_i hc
      injection hj with hj
      injection hj with hj1 hj2
      subst hj1 hj2
      simp only [Bool.and_eq_true] at hc
      exact ⟨by rw [List.getElem?_eq_getElem hk, h1], hc.1⟩
    · exact hb j d hj
theorem bestC_keep {f : List Int} {n node time : Int} : ∀ (l : List Con) (k : Nat) (b : Option (Nat × Con)), bestC f n node time k l b = none → b = none ∧ ∀ c ∈ l, cand f n node time c = false
  | [], _, _, h => ⟨h, by simp⟩
  | x :: l, k, b, h => by
    simp only [bestC] at h
    have h1 := bestC_keep l (k + 1) _ h
    unfold bstep at h1
    cases b with
    | none =>
      refine ⟨rfl, fun c hc => ?_⟩
      rcases List.mem_cons.1 hc with rfl | hc
      · have h2 := h1.1
        cases hx : cand f n node time c
        · rfl
        · rw [hx] at h2; cases h2
      · exact h1.2 c hc
    | some d =>
      have h2 := h1.1
      split at h2 <;> cases h2
theorem lastC_spec {f : List Int} {n node time : Int} {cons : List Con} {i : Nat} {c : Con} (h : lastC f n node time cons = some (i, c)) : cons[i]? = some c ∧ c ∈ cons ∧ c.dst = node ∧ 0 ≤ gi f c.src ∧ earr c (gi f c.src) n ≠ -1 ∧ earr c (gi f c.src) n = time := by
  have h1 := bestC_some cons 0 none rfl (fun i c h => by cases h) i c h
  have h2 := h1.2
  simp only [cand, decide_eq_true_eq] at h2
  exact ⟨h1.1, List.mem_of_getElem? h1.1, h2⟩
theorem lastC_ex {f : List Int} {n node time : Int} {cons : List Con} {c : Con} (hc : c ∈ cons) (h : cand f n node time c = true) : ∃ i d, lastC f n node time cons = some (i, d) := by
  cases hl : lastC f n node time cons with
  | some x => exact ⟨x.1, x.2, rfl⟩
  | none =>
    have := (bestC_keep cons 0 none hl).2 c hc
    rw [this] at h; cases h

/-- A foremost journey, from its end to its begin. -/
inductive JP (cons : List Con) (f : List Int) (n src : Int) : Int → List Hp → Prop where
  | done : JP cons f n src src []
  | step {a : Int} {i : Nat} {c : Con} {l : List Hp} : a ≠ src → lastC f n a (gi f a) cons = some (i, c) → JP cons f n src c.src l → JP cons f n src a (hopAt i c (gi f c.src) n :: l)
theorem JP.unique {cons : List Con} {f : List Int} {n src a : Int} {l l' : List Hp} (h : JP cons f n src a l) : JP cons f n src a l' → l = l' := by
  induction h generalizing l' with
  | done =>
    intro h
    cases h with
    | done => rfl
    | step h1 => exact absurd rfl h1
  | step h1 h2 _ ih =>
    intro h
    cases h with
    | done => exact absurd rfl h1
    | step g1 g2 g3 =>
      rw [h2] at g2
      injection g2 with g2
      injection g2 with e1 e2
      subst e1 e2
      rw [ih g3]
theorem JP.split {cons : List Con} {f : List Int} {n src a : Int} {l : List Hp} (h : JP cons f n src a l) (ha : a ≠ src) : ∃ i c l', lastC f n a (gi f a) cons = some (i, c) ∧ l = hopAt i c (gi f c.src) n :: l' := by
  cases h with
  | done => exact absurd rfl ha
  | step h1 h2 h3 => exact ⟨_, _, _, h2, rfl⟩
section
variable {N : Nat} {cons : List Con} {n src t0 : Int} {m : List Int}
theorem JP.found (J : JC N cons n src t0) (h : Least N (RA cons n src t0) m) {a : Int} (h0 : 0 ≤ a) (hN : a < N) (hne : a ≠ src) (hg : 0 ≤ gi m a) : ∃ i c, lastC m n a (gi m a) cons = some (i, c) := by
  rcases h.sup J hg h0 hN with ⟨e, _⟩ | ⟨c, hc, e1, e2, e3, e4⟩
  · exact absurd e hne
  · exact lastC_ex hc (by simp only [cand, decide_eq_true_eq]; exact ⟨e1, e2, by omega, e3⟩)
theorem lastC_lt (J : JC N cons n src t0) {f : List Int} {a time : Int} {i : Nat} {c : Con} (h : lastC f n a time cons = some (i, c)) : 0 ≤ c.src ∧ c.src < N ∧ 0 ≤ gi f c.src ∧ gi f c.src + 2 ≤ time := by
  have h1 := lastC_spec h
  have hok := J.con c h1.2.1
  rcases earr_cases (t := gi f c.src) hok.1 ⟨J.n1, J.n2⟩ with g | ⟨g1, g2, g3, g4, g5, g6⟩
  · exact absurd g.1 h1.2.2.2.2.1
  · exact ⟨hok.1.src0, hok.2.1, h1.2.2.2.1, by omega⟩
/-- A foremost journey is one. -/
theorem JP.reach {f : List Int} (J : JC N cons n src t0) {a : Int} {l : List Hp} (h : JP cons f n src a l) (hs : gi f src = t0) : RK cons n src t0 l.length a (gi f a) := by
  induction h with
  | done => rw [hs]; exact .start 0
  | step h1 h2 _ ih =>
    have h3 := lastC_spec h2
    have := RK.step ih h3.2.1 rfl h3.2.2.2.2.1
    rw [h3.2.2.1, h3.2.2.2.2.2] at this
    exact this
end

/-- A journey with k hops out of the rounds, from its end to its begin. -/
inductive FP (cons : List Con) (R : Nat → List Int) (n : Int) : Nat → Int → List Hp → Prop where
  | done {a : Int} : FP cons R n 0 a []
  | step {k : Nat} {a : Int} {i : Nat} {c : Con} {l : List Hp} : lastC (R k) n a (gi (R (k + 1)) a) cons = some (i, c) → FP cons R n k c.src l → FP cons R n (k + 1) a (hopAt i c (gi (R k) c.src) n :: l)
theorem FP.unique {cons : List Con} {R : Nat → List Int} {n : Int} : ∀ {k : Nat} {a : Int} {l l' : List Hp}, FP cons R n k a l → FP cons R n k a l' → l = l'
  | 0, _, _, _, .done, .done => rfl
  | k + 1, _, _, _, .step h1 h2, .step g1 g2 => by
    rw [h1] at g1
    injection g1 with g1
    injection g1 with e1 e2
    subst e1 e2
    rw [FP.unique h2 g2]
theorem FP.len {cons : List Con} {R : Nat → List Int} {n : Int} : ∀ {k : Nat} {a : Int} {l : List Hp}, FP cons R n k a l → l.length = k
  | 0, _, _, .done => rfl
  | k + 1, _, _, .step _ h => by rw [List.length_cons, FP.len h]

section
variable {N : Nat} {cons : List Con} {n src t0 : Int}
def Rr (N : Nat) (cons : List Con) (n src t0 : Int) (k : Nat) : List Int := rnds cons n (lstart N src t0) k
theorem Rr.least (J : JC N cons n src t0) (k : Nat) : Least N (RK cons n src t0 k) (Rr N cons n src t0 k) := rnds_least J k
theorem Rr.down (J : JC N cons n src t0) {j k : Nat} (h : j ≤ k) {a : Int} (h0 : 0 ≤ a) (hN : a < N) (hg : 0 ≤ gi (Rr N cons n src t0 j) a) : 0 ≤ gi (Rr N cons n src t0 k) a ∧ gi (Rr N cons n src t0 k) a ≤ gi (Rr N cons n src t0 j) a := by
  rcases (Rr.least J j).snd a h0 hN with e | e
  · omega
  · have := e.more (k - j)
    rw [show j + (k - j) = k by omega] at this
    exact (Rr.least J k).best _ _ this
/-- The node a is reached in round k, earlier than before. -/
def FS (N : Nat) (cons : List Con) (n src t0 : Int) (k : Nat) (a : Int) : Prop :=
  0 ≤ a ∧ a < N ∧ 0 ≤ gi (Rr N cons n src t0 k) a ∧ ∀ j, j + 1 = k → gi (Rr N cons n src t0 j) a = -1 ∨ gi (Rr N cons n src t0 k) a < gi (Rr N cons n src t0 j) a
theorem FS.zero (J : JC N cons n src t0) {a : Int} (h : FS N cons n src t0 0 a) : a = src ∧ gi (Rr N cons n src t0 0) a = t0 := by
  rcases (Rr.least J 0).snd a h.1 h.2.1 with e | e
  · have := h.2.2.1; omega
  · exact e.zero
theorem FS.found (J : JC N cons n src t0) {k : Nat} {a : Int} (h : FS N cons n src t0 (k + 1) a) : ∃ i c, lastC (Rr N cons n src t0 k) n a (gi (Rr N cons n src t0 (k + 1)) a) cons = some (i, c) := by
  obtain ⟨h0, hN, hg, hs⟩ := h
  have hk := Rr.least J k
  rcases (Rr.least J (k + 1)).snd a h0 hN with e | e
  · omega
  · generalize hT : gi (Rr N cons n src t0 (k + 1)) a = T at *
    cases e with
    | start =>
      have := hk.best _ _ (.start k)
      have := hs k rfl
      omega
    | step hr hcm hsr he =>
      rename_i j t c
      subst hsr
      have h1 := hk.best _ _ hr
      have h2 := earr_mono (J.con c hcm).1 h1.2 J.n1 (Int.le_refl n) J.n2 he
      rcases hk.snd c.src (J.con c hcm).1.src0 (J.con c hcm).2.1 with g | g
      · omega
      · have h3 := (Rr.least J (k + 1)).best _ _ (.step g hcm rfl h2.1)
        exact lastC_ex hcm (by simp only [cand, decide_eq_true_eq]; exact ⟨by trivial, h1.1, h2.1, by omega⟩)
theorem FS.prev (J : JC N cons n src t0) {k : Nat} {a : Int} (h : FS N cons n src t0 (k + 1) a) {i : Nat} {c : Con} (hl : lastC (Rr N cons n src t0 k) n a (gi (Rr N cons n src t0 (k + 1)) a) cons = some (i, c)) : FS N cons n src t0 k c.src := by
  have h1 := lastC_spec hl
  have hok := J.con c h1.2.1
  refine ⟨hok.1.src0, hok.2.1, h1.2.2.2.1, fun j hj => ?_⟩
  subst hj
  have hj := Rr.least J j
  rcases hj.snd c.src hok.1.src0 hok.2.1 with g | g
  · exact .inl g
  · right
    apply Classical.byContradiction
    intro hh
    have h2 := hj.best _ _ g
    have h3 := Rr.down J (show j ≤ j + 1 by omega) hok.1.src0 hok.2.1 h2.1
    have e : gi (Rr N cons n src t0 (j + 1)) c.src = gi (Rr N cons n src t0 j) c.src := by omega
    have h5 := h1.2.2.2.2
    rw [e] at h5
    have h6 := (Rr.least J (j + 1)).best _ _ (.step g h1.2.1 rfl h5.1)
    rw [h1.2.2.1, h5.2] at h6
    have := h.2.2.2 (j + 1) rfl
    omega
end

/-- A time by which the destination is reached in time. -/
def inT (q : Req) (m : List Int) : Bool := decide (0 ≤ gi m q.dst ∧ gi m q.dst ≤ q.dead)
theorem Req.argF {p : Pln} {q : Req} (h : q.okB p.quo.length = true) : p.argF q.src q.ready q.size = true := by
  simp only [Req.okB, decide_eq_true_eq] at h
  simp only [Pln.argF, decide_eq_true_eq]
  omega
theorem Req.jc {p : Pln} {q : Req} (h : p.Ok) (hq : q.okB p.quo.length = true) : JC p.quo.length p.cons q.size q.src q.ready := Pln.jc h (Req.argF hq)
def Pln.arrQ (p : Pln) (q : Req) : List Int := p.arrs q.src q.ready q.size
def Pln.RrQ (p : Pln) (q : Req) (k : Nat) : List Int := Rr p.quo.length p.cons q.size q.src q.ready k
theorem Pln.arrQ_least {p : Pln} {q : Req} (h : p.Ok) (hq : q.okB p.quo.length = true) : Least p.quo.length (RA p.cons q.size q.src q.ready) (p.arrQ q) := Pln.arrs_least h (Req.argF hq)

/-- What Find returns. -/
def JFind (p : Pln) (q : Req) (l : List Hp) (e : Int) : Prop :=
  if p.chk = 0 ∧ q.okB p.quo.length = true then (if inT q (p.arrQ q) then e = 0 ∧ ∃ b, JP p.cons (p.arrQ q) q.size q.src q.dst b ∧ l = b.reverse else e = 18 ∧ l = []) else e = 1 ∧ l = []
theorem JFind.unique {p : Pln} {q : Req} {l l' : List Hp} {e e' : Int} (h : JFind p q l e) (h' : JFind p q l' e') : l = l' ∧ e = e' := by
  unfold JFind at h h'
  split at h
  · rename_i h0
    rw [if_pos h0] at h'
    split at h
    · rename_i h1
      rw [if_pos h1] at h'
      obtain ⟨rfl, b, hb, rfl⟩ := h
      obtain ⟨rfl, b', hb', rfl⟩ := h'
      rw [hb.unique hb']; exact ⟨rfl, rfl⟩
    · rename_i h1
      rw [if_neg h1] at h'
      exact ⟨by rw [h.2, h'.2], by rw [h.1, h'.1]⟩
  · rename_i h0
    rw [if_neg h0] at h'
    exact ⟨by rw [h.2, h'.2], by rw [h.1, h'.1]⟩
/-- What Fewest returns. -/
def JFew (p : Pln) (q : Req) (l : List Hp) (e : Int) : Prop :=
  if p.chk = 0 ∧ q.okB p.quo.length = true then
    (e = 18 ∧ l = [] ∧ ∀ j, j ≤ p.quo.length → inT q (p.RrQ q j) = false) ∨
    (e = 0 ∧ ∃ k b, k ≤ p.quo.length ∧ inT q (p.RrQ q k) = true ∧ (∀ j, j < k → inT q (p.RrQ q j) = false) ∧ FP p.cons (p.RrQ q) q.size k q.dst b ∧ l = b.reverse)
  else e = 1 ∧ l = []
theorem JFew.unique {p : Pln} {q : Req} {l l' : List Hp} {e e' : Int} (h : JFew p q l e) (h' : JFew p q l' e') : l = l' ∧ e = e' := by
  unfold JFew at h h'
  split at h
  · rename_i h0
    rw [if_pos h0] at h'
    rcases h with ⟨rfl, rfl, h⟩ | ⟨rfl, k, b, h1, h2, h3, h4, rfl⟩
    · rcases h' with ⟨rfl, rfl, h'⟩ | ⟨rfl, k, b, h1, h2, h3, h4, rfl⟩
      · exact ⟨rfl, rfl⟩
      · have := h k h1; rw [this] at h2; cases h2
    · rcases h' with ⟨rfl, rfl, h'⟩ | ⟨rfl, k', b', g1, g2, g3, g4, rfl⟩
      · have := h' k h1; rw [this] at h2; cases h2
      · have e : k = k' := by
          rcases Nat.lt_trichotomy k k' with hh | hh | hh
          · have := g3 k hh; rw [this] at h2; cases h2
          · exact hh
          · have := h3 k' hh; rw [this] at g2; cases g2
        subst e
        rw [h4.unique g4]; exact ⟨rfl, rfl⟩
  · rename_i h0
    rw [if_neg h0] at h'
    exact ⟨by rw [h.2, h'.2], by rw [h.1, h'.1]⟩

/-- The contact of a hop. -/
def gc (cons : List Con) (i : Int) : Con := cons.getD i.toNat ⟨0, 0, 0, 0, 0, 0, 0⟩
theorem gc_of {cons : List Con} {i : Nat} {c : Con} (h : cons[i]? = some c) : gc cons (i : Int) = c := by simp [gc, h]
theorem gc_get {cons : List Con} {i : Int} (h : i.toNat < cons.length) : gc cons i = cons[i.toNat] := by simp [gc, h]
def seenB (seen : List Int) (x : Int) : Bool := seen.any (fun y => y == x)
/-- Why hops from a node on are no journey. -/
def chkL (cons : List Con) (n dest D : Int) : Int → Int → List Int → List Hp → Int
  | a, now, _, [] => if a ≠ dest then 10 else if D < now then 16 else 0
  | a, now, seen, h :: l =>
    if h.con < 0 ∨ cons.length ≤ h.con then 2
    else if (gc cons h.con).src ≠ a then 10
    else if seenB seen (gc cons h.con).dst then 27
    else if h.beg < now then 9
    else if (gc cons h.con).fitsB h.beg n = false then 16
    else if h.en ≠ h.beg + (gc cons h.con).dur n ∨ h.arr ≠ h.en + (gc cons h.con).rng then 24
    else chkL cons n dest D (gc cons h.con).dst h.arr (seen ++ [(gc cons h.con).dst]) l
def Pln.jchk (p : Pln) (q : Req) (l : List Hp) : Int := if p.chk = 0 ∧ q.okB p.quo.length = true then (if l.length = 0 then 20 else chkL p.cons q.size q.dst q.dead q.src q.ready [q.src] l) else 1

theorem seenB_iff {seen : List Int} {x : Int} : seenB seen x = true ↔ x ∈ seen := by simp [seenB]
/-- A hop that begins as early as possible passes. -/
theorem chkL_hop {N : Nat} {cons : List Con} {n src t0 dest D : Int} (J : JC N cons n src t0) {i : Nat} {c : Con} {now t : Int} {seen : List Int} {l : List Hp} (hi : cons[i]? = some c) (he : earr c t n ≠ -1) (hnow : now ≤ t) (hs : c.dst ∉ seen) :
    chkL cons n dest D c.src now seen (hopAt i c t n :: l) = chkL cons n dest D c.dst (earr c t n) (seen ++ [c.dst]) l := by
  have hok := J.con c (List.mem_of_getElem? hi)
  have hlt : i < cons.length := (List.getElem?_eq_some_iff.1 hi).1
  have hg := gc_of hi
  have hb := beg_ge c t
  have hsb : seenB seen c.dst = false := by
    cases h : seenB seen c.dst
    · rfl
    · exact absurd (seenB_iff.1 h) hs
  have ha := hopAt_arr (i := i) he
  rcases earr_cases (t := t) hok.1 ⟨J.n1, J.n2⟩ with g | ⟨g1, g2, g3, g4, g5, g6⟩
  · exact absurd g.1 he
  · have e : (hopAt i c t n).con = i := rfl
    have e2 : (hopAt i c t n).beg = c.beg t := rfl
    have e3 : (hopAt i c t n).en = c.beg t + c.dur n := rfl
    simp only [chkL, e, e2, e3, hg, ha]
    rw [if_neg (by omega), if_neg (by simp), hsb, if_neg (by simp), if_neg (by omega), g1, if_neg (by simp), if_neg (by omega)]

/-- A foremost journey passes, up to each node. -/
theorem JP.chk {N : Nat} {cons : List Con} {n src t0 dest D : Int} {m : List Int} (J : JC N cons n src t0) (hs : gi m src = t0) {a : Int} {l : List Hp} (h : JP cons m n src a l) :
    0 ≤ gi m a ∧ ∃ seen, (∀ x ∈ seen, gi m x ≤ gi m a) ∧ ∀ rest, chkL cons n dest D src t0 [src] (l.reverse ++ rest) = chkL cons n dest D a (gi m a) seen rest := by
  induction h with
  | done => exact ⟨by rw [hs]; exact J.r0, [src], fun x hx => by rw [List.mem_singleton.1 hx]; exact Int.le_refl _, fun rest => by rw [hs]; rfl⟩
  | step h1 h2 h5 ih =>
    rename_i a i c l
    obtain ⟨h0, seen, hseen, hrest⟩ := ih
    have h3 := lastC_spec h2
    have h4 := lastC_lt J h2
    refine ⟨by omega, seen ++ [a], fun x hx => ?_, fun rest => ?_⟩
    · rcases List.mem_append.1 hx with hx | hx
      · have := hseen x hx; omega
      · rw [List.mem_singleton.1 hx]; exact Int.le_refl _
    · rw [List.reverse_cons, List.append_assoc, List.singleton_append, hrest, chkL_hop J h3.1 h3.2.2.2.2.1 (Int.le_refl _) (fun hm => by
        have := hseen _ hm; rw [h3.2.2.1] at this; omega), h3.2.2.1, h3.2.2.2.2.2]
/-- A journey out of the rounds passes. -/
theorem FP.chk {N : Nat} {cons : List Con} {n src t0 dest D : Int} (J : JC N cons n src t0) : ∀ {k : Nat} {a : Int} {l : List Hp}, FP cons (Rr N cons n src t0) n k a l → FS N cons n src t0 k a →
    ∃ seen : List Int, (∀ x ∈ seen, ∃ j, j ≤ k ∧ 0 ≤ x ∧ x < N ∧ 0 ≤ gi (Rr N cons n src t0 j) x ∧ gi (Rr N cons n src t0 j) x ≤ gi (Rr N cons n src t0 k) a) ∧
      ∀ rest, chkL cons n dest D src t0 [src] (l.reverse ++ rest) = chkL cons n dest D a (gi (Rr N cons n src t0 k) a) seen rest
  | 0, a, _, .done, h => by
    obtain ⟨rfl, e⟩ := h.zero J
    refine ⟨[a], fun x hx => ?_, fun rest => by rw [e]; rfl⟩
    rw [List.mem_singleton.1 hx]
    exact ⟨0, Nat.le_refl _, h.1, h.2.1, h.2.2.1, Int.le_refl _⟩
  | k + 1, a, _, .step (i := i) (c := c) (l := l) h2 hp, h => by
    obtain ⟨seen, hseen, hrest⟩ := FP.chk (dest := dest) (D := D) J hp (h.prev J h2)
    have h3 := lastC_spec h2
    have h4 := lastC_lt J h2
    refine ⟨seen ++ [a], fun x hx => ?_, fun rest => ?_⟩
    · rcases List.mem_append.1 hx with hx | hx
      · obtain ⟨j, g1, g2, g3, g4, g5⟩ := hseen x hx
        exact ⟨j, by omega, g2, g3, g4, by omega⟩
      · rw [List.mem_singleton.1 hx]
        exact ⟨k + 1, Nat.le_refl _, h.1, h.2.1, h.2.2.1, Int.le_refl _⟩
    · rw [List.reverse_cons, List.append_assoc, List.singleton_append, hrest, chkL_hop J h3.1 h3.2.2.2.2.1 (Int.le_refl _) (fun hm => by
        obtain ⟨j, g1, g2, g3, g4, g5⟩ := hseen _ hm
        rw [h3.2.2.1] at g4 g5
        have := Rr.down J (show j ≤ k + 1 by omega) h.1 h.2.1 g4
        omega), h3.2.2.1, h3.2.2.2.2.2]
theorem inT_up {p : Pln} {q : Req} (h : p.Ok) (hq : q.okB p.quo.length = true) {j k : Nat} (hjk : j ≤ k) (hj : inT q (p.RrQ q j) = true) : inT q (p.RrQ q k) = true := by
  have J := Req.jc h hq
  simp only [Req.okB, decide_eq_true_eq] at hq
  simp only [inT, decide_eq_true_eq] at hj ⊢
  have := Rr.down J hjk hq.2.2.1 hq.2.2.2.1 hj.1
  unfold Pln.RrQ at *
  omega
/-- The rounds end where no more is reached. -/
theorem Pln.RrQ_all {p : Pln} {q : Req} (h : p.Ok) (hq : q.okB p.quo.length = true) {k : Nat} (hk : p.quo.length ≤ k + 1) : p.RrQ q k = p.arrQ q :=
  (rnds_all (Req.jc h hq) hk).unique (Pln.arrQ_least h hq)
/-- The first round in time. -/
theorem FS.first {p : Pln} {q : Req} (h : p.Ok) (hq : q.okB p.quo.length = true) {k : Nat} (hk : inT q (p.RrQ q k) = true) (hb : ∀ j, j < k → inT q (p.RrQ q j) = false) : FS p.quo.length p.cons q.size q.src q.ready k q.dst := by
  have J := Req.jc h hq
  simp only [Req.okB, decide_eq_true_eq] at hq
  simp only [inT, decide_eq_true_eq] at hk
  refine ⟨hq.2.2.1, hq.2.2.2.1, hk.1, fun j hj => ?_⟩
  have h1 := hb j (by omega)
  simp only [inT, decide_eq_false_iff_not] at h1
  rcases (Rr.least J j).snd q.dst hq.2.2.1 hq.2.2.2.1 with e | e
  · exact .inl e
  · have := (Rr.least J j).best _ _ e
    unfold Pln.RrQ at *
    omega
theorem FS.pos {p : Pln} {q : Req} (h : p.Ok) (hq : q.okB p.quo.length = true) {k : Nat} (hf : FS p.quo.length p.cons q.size q.src q.ready k q.dst) : k ≠ 0 := by
  rintro rfl
  have J := Req.jc h hq
  have := (hf.zero J).1
  simp only [Req.okB, decide_eq_true_eq] at hq
  omega

/-- What Check returns on what Find and Fewest return. -/
theorem JFind.chk {p : Pln} {q : Req} {l : List Hp} {e : Int} (h : JFind p q l e) (h0 : p.chk = 0) (hq : q.okB p.quo.length = true) :
    if inT q (p.arrQ q) then e = 0 ∧ p.jchk q l = 0 ∧ ∃ pre x, l = pre ++ [x] ∧ x.arr = gi (p.arrQ q) q.dst else e = 18 ∧ l = [] := by
  have hok := Pln.ok_of h0
  have J := Req.jc hok hq
  have hl := Pln.arrQ_least hok hq
  unfold JFind at h
  rw [if_pos ⟨h0, hq⟩] at h
  split at h
  · rename_i hi
    rw [if_pos hi]
    obtain ⟨rfl, b, hb, rfl⟩ := h
    have hs := hl.srcT J
    simp only [inT, decide_eq_true_eq] at hi
    have hq2 := hq
    simp only [Req.okB, decide_eq_true_eq] at hq2
    refine ⟨rfl, ?_, ?_⟩
    · obtain ⟨_, seen, _, hrest⟩ := JP.chk (dest := q.dst) (D := q.dead) J hs hb
      have h1 := hrest []
      rw [List.append_nil] at h1
      unfold Pln.jchk
      rw [if_pos ⟨h0, hq⟩, if_neg, h1]
      · simp only [chkL]
        rw [if_neg (by simp), if_neg (by omega)]
      · obtain ⟨i, c, l', g1, rfl⟩ := hb.split (by omega)
        simp
    · obtain ⟨i, c, l', g1, rfl⟩ := hb.split (by omega)
      have h4 := lastC_spec g1
      refine ⟨_, _, List.reverse_cons, ?_⟩
      rw [hopAt_arr h4.2.2.2.2.1, h4.2.2.2.2.2]
  · rename_i hi
    rw [if_neg hi]; exact h
theorem JFew.chk {p : Pln} {q : Req} {l : List Hp} {e : Int} (h : JFew p q l e) (h0 : p.chk = 0) (hq : q.okB p.quo.length = true) :
    if inT q (p.arrQ q) then e = 0 ∧ p.jchk q l = 0 ∧ l.length < p.quo.length ∧ 1 ≤ l.length ∧ (∀ j, j < l.length → inT q (p.RrQ q j) = false) else e = 18 ∧ l = [] := by
  have hok := Pln.ok_of h0
  have J := Req.jc hok hq
  have n1 := hok.n1
  unfold JFew at h
  rw [if_pos ⟨h0, hq⟩] at h
  have hall := Pln.RrQ_all hok hq (k := p.quo.length - 1) (by omega)
  split
  · rename_i hi
    rw [← hall] at hi
    rcases h with ⟨rfl, rfl, h⟩ | ⟨rfl, k, b, h1, h2, h3, h4, rfl⟩
    · have := h (p.quo.length - 1) (by omega)
      rw [this] at hi; cases hi
    · have hf := FS.first hok hq h2 h3
      have hp := hf.pos hok hq
      have hlen := h4.len
      refine ⟨rfl, ?_, ?_, ?_, ?_⟩
      · obtain ⟨seen, _, hrest⟩ := FP.chk (dest := q.dst) (D := q.dead) J h4 hf
        have g1 := hrest []
        rw [List.append_nil] at g1
        unfold Pln.jchk
        rw [if_pos ⟨h0, hq⟩, if_neg (by simp; intro hb; rw [hb] at hlen; simp at hlen; omega), g1]
        simp only [inT, decide_eq_true_eq] at h2
        unfold Pln.RrQ at h2
        simp only [chkL]
        rw [if_neg (by simp), if_neg (by omega)]
      · rw [List.length_reverse, hlen]
        apply Classical.byContradiction
        intro hh
        have := h3 (p.quo.length - 1) (by omega)
        rw [this] at hi; cases hi
      · rw [List.length_reverse, hlen]; omega
      · rw [List.length_reverse, hlen]; exact h3
  · rename_i hi
    rcases h with ⟨rfl, rfl, h⟩ | ⟨rfl, k, b, h1, h2, h3, h4, rfl⟩
    · exact ⟨rfl, rfl⟩
    · exfalso
      apply hi
      rw [← Pln.RrQ_all hok hq (k := p.quo.length) (by omega)]
      exact inT_up hok hq h1 h2
/-- Find has at least as many hops as Fewest. -/
theorem JFind.more {p : Pln} {q : Req} {l m : List Hp} {e f : Int} (h : JFind p q l e) (h' : JFew p q m f) (h0 : p.chk = 0) (hq : q.okB p.quo.length = true) : e = f ∧ (e = 0 → m.length ≤ l.length) := by
  have hok := Pln.ok_of h0
  have J := Req.jc hok hq
  have hl := Pln.arrQ_least hok hq
  have g := h.chk h0 hq
  have g' := h'.chk h0 hq
  by_cases hi : inT q (p.arrQ q) = true
  · rw [if_pos hi] at g g'
    refine ⟨by rw [g.1, g'.1], fun _ => ?_⟩
    unfold JFind at h
    rw [if_pos ⟨h0, hq⟩, if_pos hi] at h
    obtain ⟨_, b, hb, rfl⟩ := h
    have hr := hb.reach J (hl.srcT J)
    have h1 := (Rr.least J b.length).best _ _ hr
    simp only [inT, decide_eq_true_eq] at hi
    apply Classical.byContradiction
    intro hh
    have h2 := g'.2.2.2.2 b.length (by rw [List.length_reverse] at hh; omega)
    simp only [inT, decide_eq_false_iff_not] at h2
    unfold Pln.RrQ at h2
    omega
  · rw [if_neg hi] at g g'
    exact ⟨by rw [g.1, g'.1], fun e0 => by omega⟩
/-- A list of hops that passes ends at the destination, in time. -/
theorem chkL_last {cons : List Con} {n dest D : Int} {x : Hp} : ∀ {l : List Hp} {a now : Int} {seen : List Int}, chkL cons n dest D a now seen (l ++ [x]) = 0 → (gc cons x.con).dst = dest ∧ x.arr ≤ D
  | [], a, now, seen, h => by
    simp only [List.nil_append, chkL] at h
    repeat (split at h; · omega)
    rename_i g1 g2
    exact ⟨Classical.not_not.1 g1, by omega⟩
  | y :: l, a, now, seen, h => by
    simp only [List.cons_append, chkL] at h
    repeat (split at h; · omega)
    exact chkL_last h

end Go.Proofs.Ytgmfnhianhngiaa
