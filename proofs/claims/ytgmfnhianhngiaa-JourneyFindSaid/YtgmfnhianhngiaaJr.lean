/- Layer 24 (journey): the earliest arrivals as plain data, and the plain laws. -/
import Derived.Test.YtgmfnhianhngiaaLat
namespace Go.Proofs.Ytgmfnhianhngiaa
set_option linter.unusedVariables false
open Go.RowKit

/-- The arrival of the earliest transmission from a time on; -1 if there is none. -/
def earr (c : Con) (t n : Int) : Int := if c.fitsB (c.beg t) n then c.beg t + c.dur n + c.rng else -1
theorem beg_ge (c : Con) (t : Int) : t ≤ c.beg t ∧ c.st ≤ c.beg t := by unfold Con.beg; split <;> omega
theorem beg_mono (c : Con) {s t : Int} (h : s ≤ t) : c.beg s ≤ c.beg t := by unfold Con.beg; split <;> split <;> omega
theorem earr_cases {c : Con} {t n : Int} (h : c.Ok) (hn : 1 ≤ n ∧ n ≤ 65536) :
    (earr c t n = -1 ∧ c.fitsB (c.beg t) n = false) ∨ (c.fitsB (c.beg t) n = true ∧ c.beg t ≤ c.en - c.dur n ∧ earr c t n = c.beg t + c.dur n + c.rng ∧ t + 2 ≤ earr c t n ∧ 2 ≤ earr c t n ∧ earr c t n ≤ 1099511627776) := by
  have d := Con.dur_bd h hn.1 hn.2
  have b := beg_ge c t
  have := h.st0
  have := h.rng0
  have := h.en1
  unfold earr
  cases hf : c.fitsB (c.beg t) n
  · simp
  · right
    simp only [Con.fitsB, decide_eq_true_eq] at hf
    rw [if_pos rfl]
    refine ⟨rfl, hf.2, rfl, ?_, ?_, ?_⟩ <;> omega
theorem earr_mono {c : Con} {s t m n : Int} (h : c.Ok) (hst : s ≤ t) (hm : 1 ≤ m) (hmn : m ≤ n) (hn : n ≤ 65536) (he : earr c t n ≠ -1) : earr c s m ≠ -1 ∧ 0 ≤ earr c s m ∧ earr c s m ≤ earr c t n := by
  have d := Con.dur_mono (c := c) h.rate0 (by omega : 0 ≤ m) hmn
  have b := beg_mono c hst
  have b2 := beg_ge c s
  rcases earr_cases (t := t) h ⟨by omega, hn⟩ with h1 | ⟨h1, h2, h3, h4, h5, h6⟩
  · exact absurd h1.1 he
  · rcases earr_cases (t := s) h ⟨hm, by omega⟩ with g1 | ⟨g1, g2, g3, g4, g5, g6⟩
    · have := g1.2
      simp only [Con.fitsB, decide_eq_false_iff_not] at this
      omega
    · omega

/-- Where one can be with at most k hops, and when. -/
inductive RK (cons : List Con) (n src t0 : Int) : Nat → Int → Int → Prop where
  | start (k : Nat) : RK cons n src t0 k src t0
  | step {k : Nat} {i t : Int} {c : Con} : RK cons n src t0 k i t → c ∈ cons → c.src = i → earr c t n ≠ -1 → RK cons n src t0 (k + 1) c.dst (earr c t n)
structure JC (N : Nat) (cons : List Con) (n src t0 : Int) : Prop where
  con : Cons N cons
  n1 : 1 ≤ n
  n2 : n ≤ 65536
  s0 : 0 ≤ src
  s1 : src < N
  r0 : 0 ≤ t0
  r1 : t0 ≤ 1099511627776
theorem RK.rng {N : Nat} {cons : List Con} {n src t0 : Int} (J : JC N cons n src t0) {k : Nat} {i t : Int} (h : RK cons n src t0 k i t) : 0 ≤ i ∧ i < N ∧ t0 ≤ t ∧ t ≤ 1099511627776 := by
  induction h with
  | start k => exact ⟨J.s0, J.s1, Int.le_refl _, J.r1⟩
  | step h hc hi he ih =>
    rename_i k i t c
    have hok := J.con c hc
    have h1 := hok.1.dst0
    have h2 := hok.2.2
    rcases earr_cases (t := t) hok.1 ⟨J.n1, J.n2⟩ with g | ⟨g1, g2, g3, g4, g5, g6⟩
    · exact absurd g.1 he
    · exact ⟨h1, h2, by omega, g6⟩
theorem RK.succ {cons : List Con} {n src t0 : Int} {k : Nat} {i t : Int} (h : RK cons n src t0 k i t) : RK cons n src t0 (k + 1) i t := by
  induction h with
  | start k => exact .start _
  | step h hc hi he ih => exact .step ih hc hi he
theorem RK.more {cons : List Con} {n src t0 : Int} {k : Nat} {i t : Int} (h : RK cons n src t0 k i t) : ∀ d : Nat, RK cons n src t0 (k + d) i t
  | 0 => h
  | d + 1 => (RK.more h d).succ
theorem RK.zero {cons : List Con} {n src t0 : Int} {i t : Int} (h : RK cons n src t0 0 i t) : i = src ∧ t = t0 := by
  cases h; exact ⟨rfl, rfl⟩

/-- The list of the least times; -1 where there is none. -/
structure Least (N : Nat) (R : Int → Int → Prop) (m : List Int) : Prop where
  len : m.length = N
  snd : ∀ i : Int, 0 ≤ i → i < N → gi m i = -1 ∨ R i (gi m i)
  best : ∀ i t, R i t → 0 ≤ gi m i ∧ gi m i ≤ t
theorem gi_ext {m m' : List Int} (hl : m.length = m'.length) (h : ∀ i : Int, 0 ≤ i → i < m.length → gi m i = gi m' i) : m = m' := by
  apply List.ext_getElem hl
  intro i h1 h2
  have := h i (by omega) (by omega)
  rwa [gi_get h1, gi_get h2] at this
theorem Least.unique {N : Nat} {R : Int → Int → Prop} {m m' : List Int} (h : Least N R m) (h' : Least N R m') : m = m' := by
  apply gi_ext (h.len.trans h'.len.symm)
  intro i h0 h1
  have hN : i < N := by have := h.len; omega
  rcases h.snd i h0 hN with e | e
  · rcases h'.snd i h0 hN with e' | e'
    · omega
    · have := h.best _ _ e'; omega
  · have h2 := h'.best _ _ e
    rcases h'.snd i h0 hN with e' | e'
    · omega
    · have := h.best _ _ e'; omega
theorem min_ex {P : Int → Prop} (h0 : ∀ t, P t → 0 ≤ t) : (∀ t, ¬ P t) ∨ ∃ t, P t ∧ ∀ s, P s → t ≤ s := by
  have key : ∀ (n : Nat) (t : Int), P t → t.toNat ≤ n → ∃ t, P t ∧ ∀ s, P s → t ≤ s := by
    intro n
    induction n with
    | zero =>
      intro t ht hn
      exact ⟨t, ht, fun s hs => by have := h0 s hs; have := h0 t ht; omega⟩
    | succ n ih =>
      intro t ht hn
      by_cases h : ∃ s, P s ∧ s < t
      · obtain ⟨s, hs, hst⟩ := h
        exact ih s hs (by have := h0 s hs; omega)
      · exact ⟨t, ht, fun s hs => by
          apply Classical.byContradiction
          intro hh
          exact h ⟨s, hs, by omega⟩⟩
  by_cases h : ∃ t, P t
  · obtain ⟨t, ht⟩ := h
    exact .inr (key _ t ht (Nat.le_refl _))
  · exact .inl fun t ht => h ⟨t, ht⟩
theorem list_ex {q : Nat → Int → Prop} : ∀ (n : Nat), (∀ i, i < n → ∃ x, q i x) → ∃ l : List Int, l.length = n ∧ ∀ (i : Nat) (h : i < l.length), q i l[i]
  | 0, _ => ⟨[], rfl, fun i h => by simp at h⟩
  | n + 1, h => by
    obtain ⟨l, hl, hq⟩ := list_ex n (fun i hi => h i (by omega))
    obtain ⟨x, hx⟩ := h n (by omega)
    refine ⟨l ++ [x], by simp [hl], fun i hi => ?_⟩
    by_cases hin : i < l.length
    · rw [List.getElem_append_left hin]; exact hq i hin
    · have : i = n := by simp [hl] at hi; omega
      subst this
      subst hl
      simpa using hx
theorem Least.exists {N : Nat} {R : Int → Int → Prop} (hR : ∀ i t, R i t → 0 ≤ i ∧ i < N ∧ 0 ≤ t) : ∃ m, Least N R m := by
  obtain ⟨l, hl, hq⟩ := list_ex (q := fun i x => (x = -1 ∨ R i x) ∧ ∀ t, R i t → 0 ≤ x ∧ x ≤ t) N (fun i hi => by
    rcases min_ex (P := R i) (fun t ht => (hR _ _ ht).2.2) with h | ⟨t, ht, h⟩
    · exact ⟨-1, .inl rfl, fun t ht => absurd ht (h t)⟩
    · exact ⟨t, .inr ht, fun s hs => ⟨(hR _ _ ht).2.2, h s hs⟩⟩)
  have key : ∀ i : Int, 0 ≤ i → i < N → (gi l i = -1 ∨ R i (gi l i)) ∧ ∀ t, R i t → 0 ≤ gi l i ∧ gi l i ≤ t := by
    intro i h0 h1
    have hk : i.toNat < l.length := by omega
    have := hq i.toNat hk
    rw [Int.toNat_of_nonneg h0] at this
    rw [gi_of h0 hk]
    exact this
  exact ⟨l, hl, fun i h0 h1 => (key i h0 h1).1, fun i t h => (key i (hR _ _ h).1 (hR _ _ h).2.1).2 t h⟩

theorem lstart_gi {N : Nat} {src t0 : Int} (h0 : 0 ≤ src) (h1 : src < N) {i : Int} (hi : 0 ≤ i) (hN : i < N) : gi (lstart N src t0) i = if i = src then t0 else -1 := by
  have hk : src.toNat < (List.replicate N (-1 : Int)).length := by simp; omega
  unfold lstart
  rw [gi_set hk]
  by_cases h : i = src
  · rw [if_pos (by rw [h]), if_pos h]
  · rw [if_neg (by omega), if_neg h]
    have : i.toNat < N := by omega
    simp [gi, this]
theorem lstart_len (N : Nat) (src t0 : Int) : (lstart N src t0).length = N := by simp [lstart]
theorem lstart_least {N : Nat} {cons : List Con} {n src t0 : Int} (J : JC N cons n src t0) : Least N (RK cons n src t0 0) (lstart N src t0) := by
  refine ⟨lstart_len _ _ _, fun i h0 h1 => ?_, fun i t h => ?_⟩
  · rw [lstart_gi J.s0 J.s1 h0 h1]
    split
    · rename_i h; subst h; exact .inr (.start 0)
    · exact .inl rfl
  · obtain ⟨rfl, rfl⟩ := h.zero
    rw [lstart_gi J.s0 J.s1 J.s0 J.s1, if_pos rfl]
    exact ⟨J.r0, Int.le_refl _⟩

def relax (out : List Int) (j a : Int) : List Int := if a ≠ -1 ∧ (gi out j < 0 ∨ a < gi out j) then out.set j.toNat a else out
theorem relax_len (out : List Int) (j a : Int) : (relax out j a).length = out.length := by unfold relax; split <;> simp
theorem relax_gi {out : List Int} {j a : Int} (hj : 0 ≤ j) (hl : j < out.length) {i : Int} (hi : 0 ≤ i) :
    (gi (relax out j a) i = gi out i ∧ (i = j → ¬ (a ≠ -1 ∧ (gi out j < 0 ∨ a < gi out j)))) ∨ (i = j ∧ gi (relax out j a) i = a ∧ a ≠ -1 ∧ (gi out j < 0 ∨ a < gi out j)) := by
  unfold relax
  split
  · rename_i h
    rw [gi_set (by omega)]
    by_cases e : i = j
    · rw [if_pos (by rw [e])]; exact .inr ⟨e, rfl, h⟩
    · rw [if_neg (by omega)]; exact .inl ⟨rfl, fun e' => absurd e' e⟩
  · rename_i h
    exact .inl ⟨rfl, fun _ => h⟩
def rstep (n : Int) (m : List Int) (out : List Int) (c : Con) : List Int := if 0 ≤ gi m c.src then relax out c.dst (earr c (gi m c.src) n) else out
def rnd (cons : List Con) (n : Int) (m : List Int) : List Int := cons.foldl (rstep n m) m
def rnds (cons : List Con) (n : Int) (m : List Int) : Nat → List Int
  | 0 => m
  | k + 1 => rnd cons n (rnds cons n m k)

section
variable {N : Nat} {cons : List Con} {n src t0 : Int}
/-- Within a round. -/
structure RI (N : Nat) (cons : List Con) (n src t0 : Int) (k : Nat) (m out : List Int) (D : Con → Prop) : Prop where
  len : out.length = N
  snd : ∀ i : Int, 0 ≤ i → i < N → gi out i = -1 ∨ RK cons n src t0 (k + 1) i (gi out i)
  le : ∀ i : Int, 0 ≤ i → i < N → 0 ≤ gi m i → 0 ≤ gi out i ∧ gi out i ≤ gi m i
  rel : ∀ c ∈ cons, D c → 0 ≤ gi m c.src → earr c (gi m c.src) n ≠ -1 → 0 ≤ gi out c.dst ∧ gi out c.dst ≤ earr c (gi m c.src) n
theorem RI.init {k : Nat} {m : List Int} (h : Least N (RK cons n src t0 k) m) : RI N cons n src t0 k m m (fun _ => False) :=
  ⟨h.len, fun i h0 h1 => (h.snd i h0 h1).imp id RK.succ, fun i _ _ h => ⟨h, Int.le_refl _⟩, fun _ _ h => h.elim⟩
theorem RI.weak {k : Nat} {m out : List Int} {D D' : Con → Prop} (h : RI N cons n src t0 k m out D) (hD : ∀ c ∈ cons, D' c → 0 ≤ gi m c.src → earr c (gi m c.src) n ≠ -1 → D c) : RI N cons n src t0 k m out D' :=
  ⟨h.len, h.snd, h.le, fun c hc hd h0 he => h.rel c hc (hD c hc hd h0 he) h0 he⟩
theorem RI.relax (J : JC N cons n src t0) {k : Nat} {m out : List Int} {D : Con → Prop} (hm : Least N (RK cons n src t0 k) m) (h : RI N cons n src t0 k m out D) {c : Con} (hc : c ∈ cons) (h0 : 0 ≤ gi m c.src) :
    RI N cons n src t0 k m (relax out c.dst (earr c (gi m c.src) n)) (fun x => D x ∨ x = c) := by
  have hok := J.con c hc
  have s0 := hok.1.src0
  have d0 := hok.1.dst0
  have d1 := hok.2.2
  have hl := h.len
  have hR : earr c (gi m c.src) n ≠ -1 → RK cons n src t0 (k + 1) c.dst (earr c (gi m c.src) n) := fun he => by
    rcases hm.snd c.src s0 hok.2.1 with e | e
    · omega
    · exact .step e hc rfl he
  have hpos : earr c (gi m c.src) n ≠ -1 → 0 ≤ earr c (gi m c.src) n := fun he => by
    rcases earr_cases (t := gi m c.src) hok.1 ⟨J.n1, J.n2⟩ with g | ⟨g1, g2, g3, g4, g5, g6⟩
    · exact absurd g.1 he
    · omega
  refine ⟨by rw [relax_len]; exact hl, fun i i0 i1 => ?_, fun i i0 i1 hi => ?_, fun x hx hd hx0 hxe => ?_⟩
  · rcases relax_gi (a := earr c (gi m c.src) n) d0 (by omega : c.dst < out.length) i0 with ⟨e, _⟩ | ⟨rfl, e, he, _⟩
    · rw [e]; exact h.snd i i0 i1
    · rw [e]; exact .inr (hR he)
  · have h1 := h.le i i0 i1 hi
    rcases relax_gi (a := earr c (gi m c.src) n) d0 (by omega : c.dst < out.length) i0 with ⟨e, _⟩ | ⟨rfl, e, he, h2⟩
    · rw [e]; exact h1
    · rw [e]; have := hpos he; omega
  · have x0 := (J.con x hx).1.dst0
    rcases relax_gi (a := earr c (gi m c.src) n) d0 (by omega : c.dst < out.length) x0 with ⟨e, h2⟩ | ⟨hxd, e, he, h2⟩
    · rcases hd with hd | rfl
      · rw [e]; exact h.rel x hx hd hx0 hxe
      · have h9 := h2 rfl
        rw [e]
        rcases h.snd x.dst d0 d1 with g | g
        · exact absurd ⟨hxe, .inl (by omega)⟩ h9
        · have g2 := RK.rng J g
          have := J.r0
          refine ⟨by omega, ?_⟩
          apply Classical.byContradiction
          intro hh
          exact h9 ⟨hxe, .inr (by omega)⟩
    · rcases hd with hd | rfl
      · have := h.rel x hx hd hx0 hxe
        rw [e]
        rw [hxd] at this
        have := hpos he
        omega
      · rw [e]; exact ⟨hpos he, Int.le_refl _⟩
theorem RI.step (J : JC N cons n src t0) {k : Nat} {m out : List Int} {D : Con → Prop} (hm : Least N (RK cons n src t0 k) m) (h : RI N cons n src t0 k m out D) {c : Con} (hc : c ∈ cons) :
    RI N cons n src t0 k m (rstep n m out c) (fun x => D x ∨ x = c) := by
  unfold rstep
  split
  · rename_i h0; exact h.relax J hm hc h0
  · rename_i h0
    refine h.weak fun x _ hd hx _ => ?_
    rcases hd with hd | rfl
    · exact hd
    · exact absurd hx h0
theorem RI.done (J : JC N cons n src t0) {k : Nat} {m out : List Int} {D : Con → Prop} (hm : Least N (RK cons n src t0 k) m) (h : RI N cons n src t0 k m out D)
    (hD : ∀ c ∈ cons, 0 ≤ gi m c.src → earr c (gi m c.src) n ≠ -1 → D c) : Least N (RK cons n src t0 (k + 1)) out := by
  refine ⟨h.len, h.snd, fun i t hi => ?_⟩
  cases hi with
  | start =>
    have h1 := hm.best src t0 (.start k)
    have h2 := h.le src J.s0 J.s1 h1.1
    omega
  | step hr hc hi he =>
    rename_i i t c
    subst hi
    have h1 := hm.best _ _ hr
    have h2 := earr_mono (J.con c hc).1 h1.2 J.n1 (Int.le_refl n) J.n2 he
    have h3 := h.rel c hc (hD c hc h1.1 h2.1) h1.1 h2.1
    omega
theorem rfold_ri (J : JC N cons n src t0) {k : Nat} {m : List Int} (hm : Least N (RK cons n src t0 k) m) : ∀ (l : List Con) (out : List Int) (D : Con → Prop), (∀ c ∈ l, c ∈ cons) → RI N cons n src t0 k m out D → RI N cons n src t0 k m (l.foldl (rstep n m) out) (fun x => D x ∨ x ∈ l)
  | [], out, D, _, h => h.weak fun x _ hd _ _ => by simpa using hd
  | c :: l, out, D, hl, h => by
    simp only [List.foldl_cons]
    refine (rfold_ri J hm l _ _ (fun x hx => hl x (by simp [hx])) (h.step J hm (hl c (by simp)))).weak fun x _ hd _ _ => ?_
    rcases hd with hd | hd
    · exact .inl (.inl hd)
    · rcases List.mem_cons.1 hd with rfl | hd
      · exact .inl (.inr rfl)
      · exact .inr hd
theorem rnd_least (J : JC N cons n src t0) {k : Nat} {m : List Int} (hm : Least N (RK cons n src t0 k) m) : Least N (RK cons n src t0 (k + 1)) (rnd cons n m) :=
  (rfold_ri J hm cons m _ (fun _ h => h) (RI.init hm)).done J hm fun c hc _ _ => .inr hc
theorem rnds_least (J : JC N cons n src t0) : ∀ k, Least N (RK cons n src t0 k) (rnds cons n (lstart N src t0) k)
  | 0 => lstart_least J
  | k + 1 => rnd_least J (rnds_least J k)

/-- Where one can be at all. -/
def RA (cons : List Con) (n src t0 : Int) (i t : Int) : Prop := ∃ k, RK cons n src t0 k i t
theorem RA.rng (J : JC N cons n src t0) {i t : Int} (h : RA cons n src t0 i t) : 0 ≤ i ∧ i < N ∧ t0 ≤ t ∧ t ≤ 1099511627776 := by
  obtain ⟨k, h⟩ := h; exact h.rng J
theorem RA.start : RA cons n src t0 src t0 := ⟨0, .start 0⟩
theorem RA.step {i t : Int} {c : Con} (h : RA cons n src t0 i t) (hc : c ∈ cons) (hi : c.src = i) (he : earr c t n ≠ -1) : RA cons n src t0 c.dst (earr c t n) := by
  obtain ⟨k, h⟩ := h; exact ⟨k + 1, .step h hc hi he⟩
theorem Least.srcT {m : List Int} (J : JC N cons n src t0) (h : Least N (RA cons n src t0) m) : gi m src = t0 := by
  have h1 := h.best _ _ RA.start
  rcases h.snd src J.s0 J.s1 with e | e
  · omega
  · have := RA.rng J e; omega
theorem Least.edge {m : List Int} (J : JC N cons n src t0) (h : Least N (RA cons n src t0) m) {c : Con} (hc : c ∈ cons) (h0 : 0 ≤ gi m c.src) (he : earr c (gi m c.src) n ≠ -1) : 0 ≤ gi m c.dst ∧ gi m c.dst ≤ earr c (gi m c.src) n := by
  have hok := J.con c hc
  rcases h.snd c.src hok.1.src0 hok.2.1 with e | e
  · omega
  · exact h.best _ _ (e.step hc rfl he)
/-- Where a least time comes from. -/
theorem Least.sup {m : List Int} (J : JC N cons n src t0) (h : Least N (RA cons n src t0) m) {i : Int} (h0 : 0 ≤ gi m i) (hi : 0 ≤ i) (hN : i < N) :
    (i = src ∧ gi m i = t0) ∨ ∃ c ∈ cons, c.dst = i ∧ 0 ≤ gi m c.src ∧ earr c (gi m c.src) n = gi m i ∧ gi m c.src < gi m i := by
  rcases h.snd i hi hN with e | e
  · omega
  · obtain ⟨k, e⟩ := e
    generalize hg : gi m i = g at *
    cases e with
    | start => exact .inl ⟨rfl, rfl⟩
    | step hr hcm hsr he =>
      rename_i j t c
      subst hsr
      right
      have h1 := h.best _ _ ⟨_, hr⟩
      have hok := (J.con c hcm).1
      have h2 := earr_mono hok h1.2 J.n1 (Int.le_refl n) J.n2 he
      have h3 := h.edge J hcm h1.1 h2.1
      refine ⟨c, hcm, rfl, h1.1, by omega, ?_⟩
      rcases earr_cases (t := gi m c.src) hok ⟨J.n1, J.n2⟩ with g | ⟨g1, g2, g3, g4, g5, g6⟩
      · exact absurd g.1 h2.1
      · omega

def rank (m : List Int) (v : Int) : Nat := m.countP fun x => decide (0 ≤ x ∧ x < v)
theorem rank_lt : ∀ {m : List Int} {u v : Int}, u ∈ m → 0 ≤ u → u < v → rank m u < rank m v
  | [], _, _, h, _, _ => by simp at h
  | x :: m, u, v, h, h0, h1 => by
    have le : ∀ l : List Int, rank l u ≤ rank l v := fun l => by
      unfold rank
      apply List.countP_mono_left
      intro x _ hx
      simp only [decide_eq_true_eq] at hx ⊢
      omega
    unfold rank at le ⊢
    rw [List.countP_cons, List.countP_cons]
    rcases List.mem_cons.1 h with rfl | h
    · have := le m
      rw [if_neg (by simp), if_pos (by simp; omega)]
      omega
    · have := rank_lt h h0 h1
      unfold rank at this
      have hx : (if decide (0 ≤ x ∧ x < u) = true then 1 else 0) ≤ (if decide (0 ≤ x ∧ x < v) = true then 1 else 0) := by
        by_cases h2 : 0 ≤ x ∧ x < u
        · rw [if_pos (by simpa using h2), if_pos (by simp; omega)]; omega
        · rw [if_neg (by simpa using h2)]; omega
      omega
theorem rank_bd {m : List Int} {v : Int} (h : v ∈ m) : rank m v < m.length := by
  unfold rank
  have h1 : m.countP (fun x => decide (0 ≤ x ∧ x < v)) ≤ m.length := List.countP_le_length
  apply Nat.lt_of_le_of_ne h1
  intro e
  have := List.countP_eq_length.1 e v h
  simp at this
theorem rnds_hit (J : JC N cons n src t0) {m : List Int} (hm : Least N (RA cons n src t0) m) : ∀ (k : Nat) (i : Int), 0 ≤ i → i < N → 0 ≤ gi m i → rank m (gi m i) ≤ k → gi (rnds cons n (lstart N src t0) k) i = gi m i := by
  intro k
  induction k with
  | zero =>
    intro i h0 h1 hg hr
    have hl := rnds_least J 0
    rcases hm.sup J hg h0 h1 with ⟨rfl, e⟩ | ⟨c, hc, e1, e2, e3, e4⟩
    · have := hl.best _ _ (.start 0)
      rcases hl.snd i h0 h1 with g | g
      · omega
      · have := hm.best _ _ ⟨_, g⟩; omega
    · have := rank_lt (m := m) (gi_mem (by have := (J.con c hc).1.src0; have := (J.con c hc).2.1; have := hm.len; omega)) e2 e4
      omega
  | succ k ih =>
    intro i h0 h1 hg hr
    have hl := rnds_least J (k + 1)
    have hle : 0 ≤ gi (rnds cons n (lstart N src t0) (k + 1)) i ∧ gi (rnds cons n (lstart N src t0) (k + 1)) i ≤ gi m i := by
      rcases hm.sup J hg h0 h1 with ⟨rfl, e⟩ | ⟨c, hc, e1, e2, e3, e4⟩
      · rw [e]; exact hl.best _ _ (.start _)
      · have s0 := (J.con c hc).1.src0
        have s1 := (J.con c hc).2.1
        have := rank_lt (m := m) (gi_mem (i := c.src) (by have := hm.len; omega)) e2 e4
        have h2 := ih c.src s0 s1 e2 (by omega)
        rcases (rnds_least J k).snd c.src s0 s1 with g | g
        · omega
        · rw [h2] at g
          have := hl.best _ _ (.step g hc rfl (by omega))
          rw [e1, e3] at this
          exact this
    rcases hl.snd i h0 h1 with g | g
    · omega
    · have := hm.best _ _ ⟨_, g⟩; omega
/-- As many rounds as nodes suffice; one less does, too. -/
theorem rnds_all (J : JC N cons n src t0) {k : Nat} (hk : N ≤ k + 1) : Least N (RA cons n src t0) (rnds cons n (lstart N src t0) k) := by
  obtain ⟨m, hm⟩ := Least.exists (N := N) (R := RA cons n src t0) (fun i t h => by have := RA.rng J h; have := J.r0; omega)
  have e : rnds cons n (lstart N src t0) k = m := by
    have hl := rnds_least J k
    apply gi_ext (hl.len.trans hm.len.symm)
    intro i h0 h1
    have hN : i < N := by have := hl.len; omega
    rcases hm.snd i h0 hN with g | g
    · rcases hl.snd i h0 hN with g' | g'
      · omega
      · have := hm.best _ _ ⟨_, g'⟩; omega
    · have h2 := hm.best _ _ g
      have := rank_bd (m := m) (gi_mem (i := i) (by have := hm.len; omega))
      exact rnds_hit J hm k i h0 hN h2.1 (by have := hm.len; omega)
  rw [e]; exact hm
end

def Pln.arrs (p : Pln) (src t0 n : Int) : List Int := rnds p.cons n (lstart p.quo.length src t0) p.quo.length
def Pln.argF (p : Pln) (src t0 n : Int) : Bool := decide (0 ≤ src ∧ src < p.quo.length ∧ 0 ≤ t0 ∧ t0 ≤ 1099511627776 ∧ 1 ≤ n ∧ n ≤ 65536)
theorem Pln.jc {p : Pln} {src t0 n : Int} (h : p.Ok) (ha : p.argF src t0 n = true) : JC p.quo.length p.cons n src t0 := by
  simp only [Pln.argF, decide_eq_true_eq] at ha
  exact ⟨h.con, ha.2.2.2.2.1, ha.2.2.2.2.2, ha.1, ha.2.1, ha.2.2.1, ha.2.2.2.1⟩
theorem Pln.arrs_least {p : Pln} {src t0 n : Int} (h : p.Ok) (ha : p.argF src t0 n = true) : Least p.quo.length (RA p.cons n src t0) (p.arrs src t0 n) :=
  rnds_all (Pln.jc h ha) (by omega)
def Pln.forE (p : Pln) (src t0 n : Int) : Int := if p.chk = 0 then (if p.argF src t0 n then 0 else 2) else 1
def Pln.forT (p : Pln) (src t0 n : Int) : List Int := if p.forE src t0 n = 0 then p.arrs src t0 n else []

/-- The times and the nodes that were left, while the node x is left over the contacts D. -/
def gb (l : List Bool) (i : Int) : Bool := l.getD i.toNat false
theorem gb_set {l : List Bool} {i j : Int} {v : Bool} (hi : i.toNat < l.length) : gb (l.set i.toNat v) j = if j.toNat = i.toNat then v else gb l j := by
  unfold gb
  simp only [List.getD_eq_getElem?_getD]
  by_cases h : j.toNat = i.toNat
  · rw [if_pos h, h, List.getElem?_set_self hi]; rfl
  · rw [if_neg h, List.getElem?_set_ne (by omega)]
theorem gb_of {l : List Bool} {i : Int} (h : i.toNat < l.length) : gb l i = l[i.toNat] := by simp [gb, h]
theorem gb_get {l : List Bool} {k : Nat} (h : k < l.length) : gb l (k : Int) = l[k] := by simp [gb, h]
structure DI (N : Nat) (cons : List Con) (n src t0 : Int) (m : List Int) (lf : List Bool) (cur x : Int) (D : Con → Prop) : Prop where
  len : m.length = N
  lfl : lf.length = N
  snd : ∀ i : Int, 0 ≤ i → i < N → gi m i = -1 ∨ RA cons n src t0 i (gi m i)
  src : 0 ≤ gi m src ∧ gi m src ≤ t0
  lo : ∀ i : Int, 0 ≤ i → i < N → gb lf i = true → 0 ≤ gi m i ∧ gi m i ≤ cur
  hi : ∀ i : Int, 0 ≤ i → i < N → gb lf i = false → 0 ≤ gi m i → cur ≤ gi m i
  cl : ∀ c ∈ cons, gb lf c.src = true → (c.src = x → D c) → earr c (gi m c.src) n ≠ -1 → 0 ≤ gi m c.dst ∧ gi m c.dst ≤ earr c (gi m c.src) n
section
variable {N : Nat} {cons : List Con} {n src t0 : Int} {m : List Int} {lf : List Bool} {cur x : Int} {D : Con → Prop}
theorem DI.init (J : JC N cons n src t0) : DI N cons n src t0 (lstart N src t0) (List.replicate N false) 0 (-1) (fun _ => True) := by
  have h := lstart_least J
  have hf : ∀ i : Int, gb (List.replicate N false) i = false := fun i => by
    unfold gb
    rw [List.getD_eq_getElem?_getD]
    cases h : (List.replicate N false)[i.toNat]? with
    | none => rfl
    | some v => have := List.mem_of_getElem? h; rw [List.eq_of_mem_replicate this]; rfl
  refine ⟨h.len, by simp, fun i h0 h1 => (h.snd i h0 h1).imp id fun e => ⟨_, e⟩, h.best _ _ (.start 0), fun i _ _ e => ?_, fun i _ _ _ e => e, fun c _ e => ?_⟩
  · rw [hf] at e; cases e
  · rw [hf] at e; cases e
theorem DI.take (h : DI N cons n src t0 m lf cur (-1) D) {b : Int} (b0 : 0 ≤ b) (b1 : b < N) (hb : 0 ≤ gi m b) (hl : gb lf b = false) (hmin : ∀ i : Int, 0 ≤ i → i < N → gb lf i = false → 0 ≤ gi m i → gi m b ≤ gi m i)
    (hc0 : ∀ c ∈ cons, 0 ≤ c.src) : DI N cons n src t0 m (lf.set b.toNat true) (gi m b) b (fun _ => False) := by
  have hlen := h.lfl
  have hk : b.toNat < lf.length := by omega
  have hcur := h.hi b b0 b1 hl hb
  refine ⟨h.len, by rw [List.length_set]; exact hlen, h.snd, h.src, fun i i0 i1 e => ?_, fun i i0 i1 e hi => ?_, fun c hc e hx he => ?_⟩
  · rw [gb_set hk] at e
    split at e
    · rename_i hh; have : i = b := by omega
      rw [this]; exact ⟨hb, Int.le_refl _⟩
    · have := h.lo i i0 i1 e; omega
  · rw [gb_set hk] at e
    split at e
    · cases e
    · exact hmin i i0 i1 e hi
  · rw [gb_set hk] at e
    have := hc0 c hc
    split at e
    · exact (hx (by omega)).elim
    · exact h.cl c hc e (fun e' => by omega) he
theorem DI.relax (J : JC N cons n src t0) (h : DI N cons n src t0 m lf cur x D) (hx : gb lf x = true) (hcur : gi m x = cur) {c : Con} (hc : c ∈ cons) (hcx : c.src = x) :
    DI N cons n src t0 (relax m c.dst (earr c cur n)) lf cur x (fun y => D y ∨ y = c) ∧ gi (relax m c.dst (earr c cur n)) x = cur := by
  have hok := J.con c hc
  have s0 := hok.1.src0
  have s1 := hok.2.1
  have d0 := hok.1.dst0
  have d1 := hok.2.2
  have hl := h.len
  have hx0 : 0 ≤ gi m x ∧ gi m x ≤ cur := h.lo x (by omega) (by omega) hx
  have hR : earr c cur n ≠ -1 → RA cons n src t0 c.dst (earr c cur n) := fun he => by
    rcases h.snd x (by omega) (by omega) with e | e
    · omega
    · rw [hcur] at e; exact e.step hc hcx he
  have hpos : earr c cur n ≠ -1 → cur < earr c cur n := fun he => by
    rcases earr_cases (t := cur) hok.1 ⟨J.n1, J.n2⟩ with g | ⟨g1, g2, g3, g4, g5, g6⟩
    · exact absurd g.1 he
    · omega
  have hleft : ∀ i : Int, 0 ≤ i → i < N → gb lf i = true → gi (Go.Proofs.Ytgmfnhianhngiaa.relax m c.dst (earr c cur n)) i = gi m i := fun i i0 i1 e => by
    rcases relax_gi (a := earr c cur n) d0 (by omega : c.dst < m.length) i0 with ⟨e', _⟩ | ⟨rfl, e', he, h2⟩
    · exact e'
    · have := h.lo _ i0 i1 e
      have := hpos he
      omega
  have hdn : ∀ i : Int, 0 ≤ i → 0 ≤ gi m i → 0 ≤ gi (Go.Proofs.Ytgmfnhianhngiaa.relax m c.dst (earr c cur n)) i ∧ gi (Go.Proofs.Ytgmfnhianhngiaa.relax m c.dst (earr c cur n)) i ≤ gi m i := fun i i0 e => by
    rcases relax_gi (a := earr c cur n) d0 (by omega : c.dst < m.length) i0 with ⟨e', _⟩ | ⟨rfl, e', he, h2⟩
    · rw [e']; exact ⟨e, Int.le_refl _⟩
    · rw [e']; have := hpos he; omega
  refine ⟨⟨by rw [relax_len]; exact hl, h.lfl, fun i i0 i1 => ?_, ?_, fun i i0 i1 e => ?_, fun i i0 i1 e hi => ?_, fun y hy e hyx he => ?_⟩, ?_⟩
  · rcases relax_gi (a := earr c cur n) d0 (by omega : c.dst < m.length) i0 with ⟨e', _⟩ | ⟨rfl, e', he, h2⟩
    · rw [e']; exact h.snd i i0 i1
    · rw [e']; exact .inr (hR he)
  · have h1 := hdn src J.s0 h.src.1
    have := h.src.2
    omega
  · rw [hleft i i0 i1 e]; exact h.lo i i0 i1 e
  · rcases relax_gi (a := earr c cur n) d0 (by omega : c.dst < m.length) i0 with ⟨e', _⟩ | ⟨rfl, e', he, h2⟩
    · rw [e'] at hi ⊢; exact h.hi i i0 i1 e hi
    · rw [e']; have := hpos he; omega
  · have hyok := J.con y hy
    rw [hleft y.src hyok.1.src0 hyok.2.1 e] at he ⊢
    by_cases hyc : y.src = x ∧ y = c
    · obtain ⟨h1, rfl⟩ := hyc
      rw [h1, hcur] at he ⊢
      rcases relax_gi (a := earr y cur n) d0 (by omega : y.dst < m.length) d0 with ⟨e', h2⟩ | ⟨_, e', he', h2⟩
      · have h3 := h2 rfl
        rw [e']
        rcases h.snd y.dst d0 d1 with g | g
        · exact absurd ⟨he, .inl (by omega)⟩ h3
        · have g2 := RA.rng J g
          have := J.r0
          refine ⟨by omega, ?_⟩
          apply Classical.byContradiction
          intro hh
          exact h3 ⟨he, .inr (by omega)⟩
      · rw [e']; have := hpos he; omega
    · have h1 := h.cl y hy e (fun e' => by
        rcases hyx e' with g | g
        · exact g
        · exact absurd ⟨e', g⟩ hyc) he
      have h2 := hdn y.dst hyok.1.dst0 h1.1
      omega
  · rw [hleft x (by omega) (by omega) hx]; exact hcur
theorem DI.close (h : DI N cons n src t0 m lf cur x D) (hD : ∀ c ∈ cons, c.src = x → earr c (gi m x) n ≠ -1 → D c) (D' : Con → Prop) : DI N cons n src t0 m lf cur (-1) D' :=
  ⟨h.len, h.lfl, h.snd, h.src, h.lo, h.hi, fun c hc e _ he => h.cl c hc e (fun e' => hD c hc e' (by rw [← e']; exact he)) he⟩
theorem DI.weak {D' : Con → Prop} (h : DI N cons n src t0 m lf cur x D) (hD : ∀ c ∈ cons, c.src = x → D' c → D c) : DI N cons n src t0 m lf cur x D' :=
  ⟨h.len, h.lfl, h.snd, h.src, h.lo, h.hi, fun c hc e hd he => h.cl c hc e (fun e' => hD c hc e' (hd e')) he⟩
theorem DI.done (J : JC N cons n src t0) (h : DI N cons n src t0 m lf cur (-1) D) (hno : ∀ i : Int, 0 ≤ i → i < N → 0 ≤ gi m i → gb lf i = true) : Least N (RA cons n src t0) m := by
  refine ⟨h.len, h.snd, ?_⟩
  rintro i t ⟨k, hk⟩
  induction hk with
  | start => exact h.src
  | step hr hc hi he ih =>
    rename_i k i t c
    subst hi
    have hok := J.con c hc
    have h1 := hno c.src hok.1.src0 hok.2.1 ih.1
    have h2 := earr_mono hok.1 ih.2 J.n1 (Int.le_refl n) J.n2 he
    have h3 := h.cl c hc h1 (fun e => by have := hok.1.src0; omega) h2.1
    omega
end
theorem Pln.arrs_eq {p : Pln} {src t0 n : Int} (h : p.Ok) (ha : p.argF src t0 n = true) {m : List Int} (hm : Least p.quo.length (RA p.cons n src t0) m) : m = p.arrs src t0 n :=
  hm.unique (Pln.arrs_least h ha)

end Go.Proofs.Ytgmfnhianhngiaa
