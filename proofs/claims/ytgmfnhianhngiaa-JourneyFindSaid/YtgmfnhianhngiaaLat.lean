/- Layer 25 (latest): the latest times as plain data, and the plain laws. -/
import Derived.Test.YtgmfnhianhngiaaPln
import Derived.Test.YtgmfnhianhngiaaMem5
namespace Go.Proofs.Ytgmfnhianhngiaa
set_option linter.unusedVariables false
open Go.RowKit

/-- The latest begin of a transmission that arrives by a time; -1 if there is none. -/
def lbeg (c : Con) (t size : Int) : Int :=
  if t = -1 then -1 else if min c.en (t - c.rng) - c.dur size < c.st then -1 else min c.en (t - c.rng) - c.dur size
theorem lbeg_cases (c : Con) (t size : Int) : lbeg c t size = -1 ∨ (t ≠ -1 ∧ c.st ≤ lbeg c t size ∧ lbeg c t size ≤ c.en - c.dur size ∧ lbeg c t size + c.dur size + c.rng ≤ t ∧ lbeg c t size = min c.en (t - c.rng) - c.dur size) := by
  unfold lbeg
  split
  · exact .inl rfl
  · split
    · exact .inl rfl
    · right; omega
theorem lbeg_ge {c : Con} {t size : Int} (h : 0 ≤ c.st) : -1 ≤ lbeg c t size := by
  rcases lbeg_cases c t size with h1 | ⟨_, h1, _⟩ <;> omega
theorem lbeg_most {c : Con} {t size b : Int} (ht : t ≠ -1) (h1 : c.st ≤ b) (h2 : b ≤ c.en - c.dur size) (h3 : b + c.dur size + c.rng ≤ t) : b ≤ lbeg c t size := by
  unfold lbeg
  rw [if_neg ht, if_neg (by omega)]
  omega
theorem lbeg_mono {c : Con} {s t size size' : Int} (h0 : 0 ≤ c.st) (hs : -1 ≤ s) (hst : s ≤ t) (hd : c.dur size' ≤ c.dur size) : lbeg c s size ≤ lbeg c t size' := by
  rcases lbeg_cases c s size with h1 | ⟨h1, h2, h3, h4, h5⟩
  · rw [h1]; exact lbeg_ge h0
  · exact lbeg_most (by omega) h2 (by omega) (by omega)

def lstep (dest size : Int) (s : Bool × List Int) (c : Con) : Bool × List Int :=
  if c.src ≠ dest ∧ gi s.2 c.src < lbeg c (gi s.2 c.dst) size then (true, s.2.set c.src.toNat (lbeg c (gi s.2 c.dst) size)) else s
def lpass (dest size : Int) (cons : List Con) (m : List Int) : Bool × List Int := cons.foldl (lstep dest size) (false, m)
def liter (dest size : Int) (cons : List Con) : Nat → List Int → List Int
  | 0, m => m
  | n + 1, m => if (lpass dest size cons m).1 then liter dest size cons n (lpass dest size cons m).2 else m

/-- How far the times can still grow. -/
def mu (D : Int) (m : List Int) : Nat := (m.map fun x => (D - x).toNat).sum
theorem mu_set : ∀ {D : Int} {m : List Int} {k : Nat} {v : Int}, (h : k < m.length) → m[k] < v → v ≤ D → mu D (m.set k v) < mu D m
  | D, x :: m, 0, v, _, h1, h2 => by
    simp only [mu, List.set_cons_zero, List.map_cons, List.sum_cons, List.getElem_cons_zero] at *
    omega
  | D, x :: m, k + 1, v, h, h1, h2 => by
    have ih := mu_set (D := D) (m := m) (k := k) (v := v) (by simpa using h) (by simpa using h1) h2
    simp only [mu, List.set_cons_succ, List.map_cons, List.sum_cons] at *
    omega

/-- Contacts of a valid plan of n nodes. -/
def Cons (n : Nat) (cons : List Con) : Prop := ∀ c ∈ cons, c.Ok ∧ c.src < n ∧ c.dst < n
/-- Times between passes. -/
structure LInv (n : Nat) (D dest : Int) (m : List Int) : Prop where
  len : m.length = n
  lo : ∀ x ∈ m, -1 ≤ x
  hi : ∀ x ∈ m, x ≤ D
  dst : gi m dest = D

theorem lstep_inv {n : Nat} {D dest size : Int} {s : Bool × List Int} {c : Con} (hc : c.Ok ∧ c.src < n ∧ c.dst < n) (hsz : 1 ≤ size ∧ size ≤ 65536) (hd : 0 ≤ dest) (h : LInv n D dest s.2) :
    LInv n D dest (lstep dest size s c).2 ∧ mu D (lstep dest size s c).2 ≤ mu D s.2 ∧ ((lstep dest size s c).1 = true → s.1 = true ∨ mu D (lstep dest size s c).2 < mu D s.2) ∧ ((lstep dest size s c).1 = false → lstep dest size s c = s) ∧ (s.1 = true → (lstep dest size s c).1 = true) := by
  have d := Con.dur_bd hc.1 hsz.1 hsz.2
  have hs0 := hc.1.src0
  have hd0 := hc.1.dst0
  have hr := hc.1.rng0
  have hst := hc.1.st0
  unfold lstep
  split
  · rename_i hh
    have hk : c.src.toNat < s.2.length := by rw [h.len]; omega
    have hdm := h.hi _ (gi_mem (i := c.dst) (by rw [h.len]; omega))
    have hle : lbeg c (gi s.2 c.dst) size ≤ D := by
      rcases lbeg_cases c (gi s.2 c.dst) size with h1 | ⟨_, h2, h3, h4, h5⟩
      · have := h.lo _ (gi_mem (m := s.2) (i := c.dst) (by rw [h.len]; omega)); omega
      · omega
    have hmu := mu_set (D := D) hk (by rw [← gi_of hs0 hk]; exact hh.2) hle
    refine ⟨⟨by simpa using h.len, ?_, ?_, ?_⟩, Nat.le_of_lt hmu, fun _ => .inr hmu, fun h => (by cases h), fun _ => rfl⟩
    · intro x hx
      rcases List.mem_or_eq_of_mem_set hx with hx | rfl
      · exact h.lo x hx
      · exact lbeg_ge hst
    · intro x hx
      rcases List.mem_or_eq_of_mem_set hx with hx | rfl
      · exact h.hi x hx
      · exact hle
    · rw [gi_set hk, if_neg (by omega)]; exact h.dst
  · exact ⟨h, Nat.le_refl _, fun h => .inl h, fun _ => rfl, id⟩

theorem lfold_inv {n : Nat} {D dest size : Int} (hsz : 1 ≤ size ∧ size ≤ 65536) (hd : 0 ≤ dest) : ∀ (cons : List Con) (s : Bool × List Int), Cons n cons → LInv n D dest s.2 →
    LInv n D dest (cons.foldl (lstep dest size) s).2 ∧ mu D (cons.foldl (lstep dest size) s).2 ≤ mu D s.2 ∧ ((cons.foldl (lstep dest size) s).1 = true → s.1 = true ∨ mu D (cons.foldl (lstep dest size) s).2 < mu D s.2) ∧ ((cons.foldl (lstep dest size) s).1 = false → cons.foldl (lstep dest size) s = s) ∧ (s.1 = true → (cons.foldl (lstep dest size) s).1 = true)
  | [], s, _, h => ⟨h, Nat.le_refl _, fun h => .inl h, fun _ => rfl, id⟩
  | c :: cons, s, hc, h => by
    have h1 := lstep_inv (hc c (by simp)) hsz hd h
    have h2 := lfold_inv hsz hd cons (lstep dest size s c) (fun x hx => hc x (by simp [hx])) h1.1
    simp only [List.foldl_cons]
    refine ⟨h2.1, Nat.le_trans h2.2.1 h1.2.1, fun e => ?_, fun e => ?_, fun e => h2.2.2.2.2 (h1.2.2.2.2 e)⟩
    · rcases h2.2.2.1 e with e1 | e1
      · rcases h1.2.2.1 e1 with e2 | e2
        · exact .inl e2
        · exact .inr (Nat.lt_of_le_of_lt h2.2.1 e2)
      · exact .inr (Nat.lt_of_lt_of_le e1 h1.2.1)
    · have e1 := h2.2.2.2.1 e
      rw [e1] at e
      rw [e1, h1.2.2.2.1 e]
theorem lpass_inv {n : Nat} {D dest size : Int} {cons : List Con} {m : List Int} (hsz : 1 ≤ size ∧ size ≤ 65536) (hd : 0 ≤ dest) (hc : Cons n cons) (h : LInv n D dest m) :
    LInv n D dest (lpass dest size cons m).2 ∧ ((lpass dest size cons m).1 = true → mu D (lpass dest size cons m).2 < mu D m) ∧ ((lpass dest size cons m).1 = false → (lpass dest size cons m).2 = m) := by
  have h1 := lfold_inv hsz hd cons (false, m) hc h
  refine ⟨h1.1, fun e => ?_, fun e => ?_⟩
  · rcases h1.2.2.1 e with h2 | h2
    · cases h2
    · exact h2
  · have := h1.2.2.2.1 e
    unfold lpass; rw [this]

/-- No contact improves anything. -/
def LFix (dest size : Int) (cons : List Con) (m : List Int) : Prop := ∀ c ∈ cons, c.src ≠ dest → lbeg c (gi m c.dst) size ≤ gi m c.src
theorem lfold_stop {n : Nat} {D dest size : Int} (hsz : 1 ≤ size ∧ size ≤ 65536) (hd : 0 ≤ dest) : ∀ (cons : List Con) (m : List Int), Cons n cons → LInv n D dest m → (cons.foldl (lstep dest size) (false, m)).1 = false → LFix dest size cons m
  | [], _, _, _, _ => fun c hc => by simp at hc
  | c :: cons, m, hc, h, e => by
    simp only [List.foldl_cons] at e
    have h1 := lstep_inv (s := (false, m)) (hc c (by simp)) hsz hd h
    have h2 := lfold_inv hsz hd cons (lstep dest size (false, m) c) (fun x hx => hc x (by simp [hx])) h1.1
    have e0 : (lstep dest size (false, m) c).1 = false := by
      cases hx : (lstep dest size (false, m) c).1
      · rfl
      · have := h2.2.2.2.2 hx
        rw [e] at this; cases this
    have e1 := h1.2.2.2.1 e0
    rw [e1] at e
    have ih := lfold_stop hsz hd cons m (fun x hx => hc x (by simp [hx])) h e
    intro x hx hne
    rcases List.mem_cons.1 hx with rfl | hx
    · unfold lstep at e0
      split at e0
      · cases e0
      · rename_i hh
        simp only at hh
        omega
    · exact ih x hx hne

theorem liter_inv {n : Nat} {D dest size : Int} {cons : List Con} (hsz : 1 ≤ size ∧ size ≤ 65536) (hd : 0 ≤ dest) (hc : Cons n cons) : ∀ (k : Nat) (m : List Int), LInv n D dest m → mu D m ≤ k →
    LInv n D dest (liter dest size cons k m) ∧ LFix dest size cons (liter dest size cons k m)
  | 0, m, h, hk => by
    refine ⟨h, ?_⟩
    have hp := lpass_inv hsz hd hc h
    cases e : (lpass dest size cons m).1
    · exact lfold_stop hsz hd cons m hc h e
    · have := hp.2.1 e; omega
  | k + 1, m, h, hk => by
    have hp := lpass_inv hsz hd hc h
    simp only [liter]
    cases e : (lpass dest size cons m).1
    · exact ⟨h, lfold_stop hsz hd cons m hc h e⟩
    · have := hp.2.1 e
      exact liter_inv hsz hd hc k _ hp.1 (by omega)

/-- The times at the start. -/
def lstart (n : Nat) (dest D : Int) : List Int := (List.replicate n (-1)).set dest.toNat D
theorem lstart_inv {n : Nat} {dest D : Int} (hd : 0 ≤ dest ∧ dest < n) (hD : 0 ≤ D) : LInv n D dest (lstart n dest D) := by
  have hk : dest.toNat < (List.replicate n (-1 : Int)).length := by simp; omega
  refine ⟨by simp [lstart], ?_, ?_, ?_⟩
  · intro x hx
    rcases List.mem_or_eq_of_mem_set hx with hx | rfl
    · rw [List.eq_of_mem_replicate hx]; omega
    · omega
  · intro x hx
    rcases List.mem_or_eq_of_mem_set hx with hx | rfl
    · rw [List.eq_of_mem_replicate hx]; omega
    · omega
  · unfold lstart; rw [gi_set hk, if_pos rfl]

def Pln.times (p : Pln) (dest D size : Int) : List Int := liter dest size p.cons (mu D (lstart p.quo.length dest D)) (lstart p.quo.length dest D)
def Pln.argB (p : Pln) (dest D size : Int) : Bool := decide (0 ≤ dest ∧ dest < p.quo.length ∧ 0 ≤ D ∧ D ≤ 1099511627776 ∧ 1 ≤ size ∧ size ≤ 65536)
theorem Pln.times_inv {p : Pln} {dest D size : Int} (h : p.Ok) (ha : p.argB dest D size = true) : LInv p.quo.length D dest (p.times dest D size) ∧ LFix dest size p.cons (p.times dest D size) := by
  simp only [Pln.argB, decide_eq_true_eq] at ha
  exact liter_inv ⟨ha.2.2.2.2.1, ha.2.2.2.2.2⟩ ha.1 h.con _ _ (lstart_inv ⟨ha.1, ha.2.1⟩ ha.2.2.1) (Nat.le_refl _)

/-- Where a time that is not -1 comes from. -/
def LSup (dest size : Int) (cons : List Con) (m : List Int) : Prop := ∀ i : Nat, i < m.length → (i : Int) ≠ dest → 0 ≤ gi m i → ∃ c ∈ cons, c.src = i ∧ gi m i ≤ lbeg c (gi m c.dst) size
theorem lstep_sup {n : Nat} {D dest size : Int} {s : Bool × List Int} {c : Con} {all : List Con} (hall : Cons n all) (hin : c ∈ all) (h : LInv n D dest s.2) (hs : LSup dest size all s.2) : LSup dest size all (lstep dest size s c).2 := by
  have hc := hall c hin
  have hs0 := hc.1.src0
  have hd0 := hc.1.dst0
  unfold lstep
  split
  · rename_i hh
    have hk : c.src.toNat < s.2.length := by rw [h.len]; omega
    have hup : ∀ j : Int, gi s.2 j ≤ gi (s.2.set c.src.toNat (lbeg c (gi s.2 c.dst) size)) j := by
      intro j
      rw [gi_set hk]
      split
      · rename_i e
        have : gi s.2 j = gi s.2 c.src := by unfold gi; rw [e]
        omega
      · omega
    intro i hil hi h0
    simp only [List.length_set] at hil h0 ⊢
    by_cases e : i = c.src.toNat
    · refine ⟨c, hin, by omega, ?_⟩
      rw [gi_set hk, if_pos (by omega), gi_set hk, if_neg (by have := hc.1.ne; omega)]
      omega
    · rw [gi_set hk, if_neg (by omega)] at h0 ⊢
      obtain ⟨d, hd, hd1, hd2⟩ := hs i hil hi h0
      refine ⟨d, hd, hd1, Int.le_trans hd2 (lbeg_mono (hall d hd).1.st0 (h.lo _ (gi_mem (by rw [h.len]; have := (hall d hd).1.dst0; have := (hall d hd).2.2; omega))) (hup _) (Int.le_refl _))⟩
  · exact hs
theorem lfold_sup {n : Nat} {D dest size : Int} {all : List Con} (hsz : 1 ≤ size ∧ size ≤ 65536) (hd : 0 ≤ dest) (hall : Cons n all) : ∀ (cons : List Con) (s : Bool × List Int), (∀ c ∈ cons, c ∈ all) → LInv n D dest s.2 → LSup dest size all s.2 → LSup dest size all (cons.foldl (lstep dest size) s).2
  | [], _, _, _, h => h
  | c :: cons, s, hin, hi, h => by
    simp only [List.foldl_cons]
    exact lfold_sup hsz hd hall cons _ (fun x hx => hin x (by simp [hx])) (lstep_inv (hall c (hin c (by simp))) hsz hd hi).1 (lstep_sup hall (hin c (by simp)) hi h)
theorem liter_sup {n : Nat} {D dest size : Int} {cons : List Con} (hsz : 1 ≤ size ∧ size ≤ 65536) (hd : 0 ≤ dest) (hc : Cons n cons) : ∀ (k : Nat) (m : List Int), LInv n D dest m → LSup dest size cons m → LSup dest size cons (liter dest size cons k m)
  | 0, _, _, h => h
  | k + 1, m, hi, h => by
    simp only [liter]
    split
    · exact liter_sup hsz hd hc k _ (lpass_inv hsz hd hc hi).1 (lfold_sup hsz hd hc cons _ (fun x hx => hx) hi h)
    · exact h
theorem Pln.times_sup {p : Pln} {dest D size : Int} (h : p.Ok) (ha : p.argB dest D size = true) {i : Int} (h0 : 0 ≤ i) (hin : i < p.quo.length) (hi : i ≠ dest) (hg : 0 ≤ gi (p.times dest D size) i) :
    ∃ c ∈ p.cons, c.src = i ∧ lbeg c (gi (p.times dest D size) c.dst) size = gi (p.times dest D size) i := by
  have ha2 := ha
  simp only [Pln.argB, decide_eq_true_eq] at ha2
  have hs : LSup dest size p.cons (lstart p.quo.length dest D) := by
    intro j hjl hj hg
    exfalso
    have hk : dest.toNat < (List.replicate p.quo.length (-1 : Int)).length := by simp; omega
    unfold lstart at hg
    rw [gi_set hk, if_neg (by omega)] at hg
    have hl : j < p.quo.length := by simpa [lstart] using hjl
    have : gi (List.replicate p.quo.length (-1 : Int)) (j : Int) = -1 := by
      unfold gi; simp [hl]
    omega
  have h1 := liter_sup ⟨ha2.2.2.2.2.1, ha2.2.2.2.2.2⟩ ha2.1 h.con (mu D (lstart p.quo.length dest D)) _ (lstart_inv ⟨ha2.1, ha2.2.1⟩ ha2.2.2.1) hs
  obtain ⟨c, hc, e1, e2⟩ := h1 i.toNat (by have := (Pln.times_inv h ha).1.len; unfold Pln.times at this; omega) (by omega) (by rw [Int.toNat_of_nonneg h0]; exact hg)
  rw [Int.toNat_of_nonneg h0] at e1 e2
  refine ⟨c, hc, e1, ?_⟩
  have h2 := (Pln.times_inv h ha).2 c hc (by omega)
  rw [e1] at h2
  unfold Pln.times at *
  omega

end Go.Proofs.Ytgmfnhianhngiaa
