/- Layer 26 (reach): the levels of what is reached, as plain data. -/
import Derived.Test.YtifopbkhflpbfaaGreatRchV
import Derived.Test.YtifopbkhflpbfaaGreatRchM
namespace Go.Proofs.YtifopbkhflpbfaaGreat
set_option linter.unusedVariables false
open Go.RowKit

def inR (a : Int) (x : Int) : Bool := decide (0 ≤ x ∧ x ≤ a)
/-- How many times are reached up to a time. -/
def cnt (T : List Int) (a : Int) : Nat := T.countP (inR a)
theorem cnt_mono (T : List Int) {a b : Int} (h : a ≤ b) : cnt T a ≤ cnt T b :=
  List.countP_mono_left fun x _ hx => by simp only [inR, decide_eq_true_eq] at hx ⊢; omega
theorem cnt_lt : ∀ {T : List Int} {a b x : Int}, x ∈ T → 0 ≤ x → a < x → x ≤ b → cnt T a < cnt T b
  | [], _, _, _, h, _, _, _ => by simp at h
  | y :: T, a, b, x, h, h0, h1, h2 => by
    unfold cnt
    rw [List.countP_cons, List.countP_cons]
    have hm : cnt T a ≤ cnt T b := cnt_mono T (by omega)
    unfold cnt at hm
    have hy : inR a y = true → inR b y = true := fun hh => by simp only [inR, decide_eq_true_eq] at hh ⊢; omega
    rcases List.mem_cons.1 h with rfl | h
    · have e1 : inR a x = false := by simp only [inR, decide_eq_false_iff_not]; omega
      have e2 : inR b x = true := by simp only [inR, decide_eq_true_eq]; omega
      rw [e1, e2]
      simp only [if_true, Bool.false_eq_true, if_false]
      omega
    · have h3 := cnt_lt h h0 h1 h2
      unfold cnt at h3
      cases ha : inR a y
      · simp only [Bool.false_eq_true, if_false]; omega
      · rw [hy ha]; simp only [if_true]; omega
theorem cnt_same {T : List Int} {a b : Int} (h : a ≤ b) (hn : ∀ x ∈ T, 0 ≤ x → x ≤ b → x ≤ a) : cnt T a = cnt T b :=
  List.countP_congr fun x hx => by
    have := hn x hx
    simp only [inR, decide_eq_true_eq]
    omega

/-- The levels of the times of a list. -/
structure LS (T : List Int) (f : List Lev) : Prop where
  ord : ∀ (i j : Nat) (_ : i < j) (hj : j < f.length), (f[i]'(by omega)).tm < f[j].tm
  mem : ∀ x : Int, (∃ y ∈ f, y.tm = x) ↔ (x ∈ T ∧ 0 ≤ x)
  val : ∀ y ∈ f, y.val = cnt T y.tm
theorem sorted_unique : ∀ {l m : List Int}, l.Pairwise (· < ·) → m.Pairwise (· < ·) → (∀ x, x ∈ l ↔ x ∈ m) → l = m
  | [], [], _, _, _ => rfl
  | [], b :: m, _, _, h => by have := (h b).2 (by simp); simp at this
  | a :: l, [], _, _, h => by have := (h a).1 (by simp); simp at this
  | a :: l, b :: m, h1, h2, h => by
    rw [List.pairwise_cons] at h1 h2
    have e1 := List.mem_cons.1 ((h a).1 (by simp))
    have e2 := List.mem_cons.1 ((h b).2 (by simp))
    have e : a = b := by
      rcases e1 with e1 | e1
      · exact e1
      · rcases e2 with e2 | e2
        · exact e2.symm
        · have := h1.1 b e2
          have := h2.1 a e1
          omega
    subst e
    rw [sorted_unique h1.2 h2.2 fun x => ⟨fun hx => ?_, fun hx => ?_⟩]
    · have := h1.1 x hx
      rcases List.mem_cons.1 ((h x).1 (by simp [hx])) with e | e
      · omega
      · exact e
    · have := h2.1 x hx
      rcases List.mem_cons.1 ((h x).2 (by simp [hx])) with e | e
      · omega
      · exact e
theorem LS.tms {T : List Int} {f : List Lev} (h : LS T f) : (f.map Lev.tm).Pairwise (· < ·) := by
  rw [List.pairwise_map, List.pairwise_iff_getElem]
  exact fun i j hi hj hij => h.ord i j hij hj
theorem LS.back {T : List Int} {f : List Lev} (h : LS T f) : f = (f.map Lev.tm).map fun t => ⟨t, cnt T t⟩ := by
  rw [List.map_map]
  conv => lhs; rw [← List.map_id f]
  apply List.map_congr_left
  intro y hy
  have := h.val y hy
  obtain ⟨a, b⟩ := y
  simp only [id_eq, Function.comp] at this ⊢
  rw [this]
theorem LS.unique {T : List Int} {f g : List Lev} (h : LS T f) (h' : LS T g) : f = g := by
  rw [h.back, h'.back, sorted_unique h.tms h'.tms fun x => ?_]
  rw [List.mem_map, List.mem_map, h.mem x, h'.mem x]

/-- What the program lays: a level more, or the last one raised. -/
def rlStep (out : List Lev) (i : Nat) (a : Int) : List Lev :=
  if 0 < out.length ∧ (gl out (out.length - 1)).tm = a then out.set (out.length - 1) ⟨a, (i : Int) + 1⟩ else out ++ [⟨a, (i : Int) + 1⟩]
def rl (S : List Int) : Nat → List Lev
  | 0 => []
  | k + 1 => rlStep (rl S k) k (gi S (k : Int))
theorem rl_len (S : List Int) : ∀ k, (rl S k).length ≤ k
  | 0 => Nat.le_refl _
  | k + 1 => by
    have := rl_len S k
    unfold rl rlStep
    split
    · rw [List.length_set]; omega
    · rw [List.length_append, List.length_singleton]; omega
/-- The levels of the first k times of a list in order. -/
structure RI2 (S : List Int) (k : Nat) (out : List Lev) : Prop where
  ord : ∀ (i j : Nat) (_ : i < j) (hj : j < out.length), (out[i]'(by omega)).tm < out[j].tm
  mem : ∀ x : Int, (∃ y ∈ out, y.tm = x) ↔ x ∈ S.take k
  val : ∀ y ∈ out, y.val = ((S.take k).countP fun x => decide (x ≤ y.tm) : Nat)
  last : ∀ (h : 0 < k), ∃ (hl : 0 < out.length), (out[out.length - 1]'(by omega)).tm = gi S ((k - 1 : Nat) : Int)
theorem RI2.step {S : List Int} (hS : S.Pairwise (· ≤ ·)) {k : Nat} {out : List Lev} (h : RI2 S k out) (hk : k < S.length) : RI2 S (k + 1) (rlStep out k (gi S (k : Int))) := by
  have ek : gi S (k : Int) = S[k] := gi_get hk
  rw [ek]
  have htk : S.take (k + 1) = S.take k ++ [S[k]] := List.take_succ_eq_append_getElem hk
  have hle : ∀ x ∈ S.take k, x ≤ S[k] := fun x hx => by
    obtain ⟨j, hj, rfl⟩ := List.mem_take_iff_getElem.1 hx
    exact List.pairwise_iff_getElem.1 hS j k (by omega) hk (by omega)
  have hlen : (S.take k).length = k := by rw [List.length_take]; omega
  have hall : (S.take (k + 1)).countP (fun x => decide (x ≤ S[k])) = k + 1 := by
    rw [htk, List.countP_append]
    have e1 : (S.take k).countP (fun x => decide (x ≤ S[k])) = (S.take k).length := by
      rw [List.countP_eq_length]
      intro x hx
      simpa using hle x hx
    rw [e1, hlen]
    simp
  unfold rlStep
  by_cases hc : 0 < out.length ∧ (gl out (out.length - 1)).tm = S[k]
  · rw [if_pos hc]
    obtain ⟨h0, h1⟩ := hc
    have hlt : out.length - 1 < out.length := by omega
    rw [gl_get hlt] at h1
    refine ⟨fun i j hij hj => ?_, fun x => ?_, fun y hy => ?_, fun _ => ?_⟩
    · rw [List.length_set] at hj
      have hi2 : i ≠ out.length - 1 := by omega
      rw [List.getElem_set_ne (by omega)]
      have h3 := h.ord i j hij hj
      by_cases e : j = out.length - 1
      · subst e
        rw [List.getElem_set_self]
        rw [h1] at h3; exact h3
      · rw [List.getElem_set_ne (by omega)]; exact h3
    · rw [htk, List.mem_append, List.mem_singleton, ← h.mem x]
      constructor
      · rintro ⟨y, hy, rfl⟩
        obtain ⟨j, hj, rfl⟩ := List.getElem_of_mem hy
        rw [List.length_set] at hj
        by_cases e : j = out.length - 1
        · subst e
          rw [List.getElem_set_self]
          exact .inr rfl
        · rw [List.getElem_set_ne (by omega)]
          exact .inl ⟨_, List.getElem_mem hj, rfl⟩
      · intro hh
        have key : ∀ j (hj : j < out.length), ∃ y ∈ out.set (out.length - 1) ⟨S[k], (k : Int) + 1⟩, y.tm = out[j].tm := fun j hj => by
          by_cases e : j = out.length - 1
          · subst e
            exact ⟨⟨S[k], (k : Int) + 1⟩, List.mem_iff_getElem.2 ⟨out.length - 1, by rw [List.length_set]; exact hlt, List.getElem_set_self ..⟩, h1.symm⟩
          · exact ⟨out[j], List.mem_iff_getElem.2 ⟨j, by rw [List.length_set]; exact hj, List.getElem_set_ne (by omega) _⟩, rfl⟩
        rcases hh with ⟨y, hy, rfl⟩ | rfl
        · obtain ⟨j, hj, rfl⟩ := List.getElem_of_mem hy
          exact key j hj
        · obtain ⟨y, hy, e⟩ := key _ hlt
          exact ⟨y, hy, e.trans h1⟩
    · obtain ⟨j, hj, rfl⟩ := List.getElem_of_mem hy
      rw [List.length_set] at hj
      by_cases e : j = out.length - 1
      · subst e
        rw [List.getElem_set_self]
        dsimp only
        rw [hall]; omega
      · rw [List.getElem_set_ne (by omega)]
        have h3 := h.ord j (out.length - 1) (by omega) hlt
        rw [h.val _ (List.getElem_mem hj), htk, List.countP_append]
        have e2 : decide (S[k] ≤ out[j].tm) = false := decide_eq_false (by omega)
        simp [e2]
    · refine ⟨by rw [List.length_set]; exact h0, ?_⟩
      simp only [List.length_set, List.getElem_set_self, Nat.add_sub_cancel]
      exact ek.symm
  · rw [if_neg hc]
    have hlast : ∀ (j : Nat) (hj : j < out.length), out[j].tm < S[k] := fun j hj => by
      have hk0 : 0 < k := by
        apply Nat.pos_of_ne_zero
        intro e
        subst e
        have := (h.mem out[j].tm).1 ⟨_, List.getElem_mem hj, rfl⟩
        simp at this
      have hm := (h.mem out[j].tm).1 ⟨_, List.getElem_mem hj, rfl⟩
      have h4 := hle _ hm
      apply Classical.byContradiction
      intro hn
      have e : out[j].tm = S[k] := by omega
      have hll : out.length - 1 < out.length := by omega
      have h5 : out[j].tm ≤ out[out.length - 1].tm := by
        by_cases e2 : j = out.length - 1
        · subst e2; exact Int.le_refl _
        · exact Int.le_of_lt (h.ord j _ (by omega) hll)
      have h6 := hle _ ((h.mem out[out.length - 1].tm).1 ⟨_, List.getElem_mem hll, rfl⟩)
      exact hc ⟨by omega, by rw [gl_get hll]; omega⟩
    refine ⟨fun i j hij hj => ?_, fun x => ?_, fun y hy => ?_, fun _ => ?_⟩
    · rw [List.length_append, List.length_singleton] at hj
      rw [List.getElem_append_left (by omega)]
      by_cases e : j < out.length
      · rw [List.getElem_append_left e]; exact h.ord i j hij e
      · have e2 : j = out.length := by omega
        subst e2
        rw [List.getElem_append_right (Nat.le_refl _)]
        simp only [Nat.sub_self, List.getElem_cons_zero]
        exact hlast i (by omega)
    · rw [htk, List.mem_append, List.mem_singleton, ← h.mem x]
      constructor
      · rintro ⟨y, hy, rfl⟩
        rcases List.mem_append.1 hy with hy | hy
        · exact .inl ⟨y, hy, rfl⟩
        · rw [List.mem_singleton.1 hy]; exact .inr rfl
      · rintro (⟨y, hy, rfl⟩ | rfl)
        · exact ⟨y, by simp [hy], rfl⟩
        · exact ⟨⟨S[k], (k : Int) + 1⟩, by simp, rfl⟩
    · rcases List.mem_append.1 hy with hy | hy
      · obtain ⟨j, hj, rfl⟩ := List.getElem_of_mem hy
        have h3 := hlast j hj
        rw [h.val _ (List.getElem_mem hj), htk, List.countP_append]
        have e2 : decide (S[k] ≤ out[j].tm) = false := decide_eq_false (by omega)
        simp [e2]
      · rw [List.mem_singleton.1 hy]
        dsimp only
        rw [hall]; omega
    · refine ⟨by rw [List.length_append, List.length_singleton]; omega, ?_⟩
      have e : (out ++ [(⟨S[k], (k : Int) + 1⟩ : Lev)]).length - 1 = out.length := by rw [List.length_append, List.length_singleton]; omega
      simp only [e, Nat.add_sub_cancel]
      rw [List.getElem_append_right (Nat.le_refl _)]
      simp only [Nat.sub_self, List.getElem_cons_zero]
      exact ek.symm
theorem rl_ri (S : List Int) (hS : S.Pairwise (· ≤ ·)) : ∀ k, k ≤ S.length → RI2 S k (rl S k)
  | 0, _ => ⟨fun i j hij hj => by simp [rl] at hj, fun x => by simp [rl], fun y hy => by simp [rl] at hy, fun h => absurd h (by omega)⟩
  | k + 1, hk => (rl_ri S hS k (by omega)).step hS (by omega)
theorem rl_ls {T S : List Int} (hT : ∀ x ∈ T, -1 ≤ x) (hp : S.Perm (T.filter fun x => !(x == -1))) (hS : S.Pairwise (· ≤ ·)) : LS T (rl S S.length) := by
  have h := rl_ri S hS S.length (Nat.le_refl _)
  have hm : ∀ x, x ∈ S ↔ x ∈ T ∧ 0 ≤ x := fun x => by
    rw [hp.mem_iff, List.mem_filter]
    constructor
    · rintro ⟨h1, h2⟩
      have := hT x h1
      have h3 : x ≠ -1 := by simpa using h2
      exact ⟨h1, by omega⟩
    · rintro ⟨h1, h2⟩
      exact ⟨h1, by simp; omega⟩
  refine ⟨h.ord, fun x => ?_, fun y hy => ?_⟩
  · rw [h.mem x, List.take_length, hm x]
  · rw [h.val y hy, List.take_length, hp.countP_eq, List.countP_filter]
    congr 1
    apply List.countP_congr
    intro x hx
    have := hT x hx
    simp only [inR, Bool.and_eq_true, decide_eq_true_eq, Bool.not_eq_true', beq_eq_false_iff_ne]
    omega

section
variable {T : List Int} {f : List Lev}
theorem LS.le (h : LS T f) {i j : Nat} (hij : i ≤ j) (hj : j < f.length) : (f[i]'(by omega)).tm ≤ f[j].tm := by
  by_cases e : i = j
  · subst e; exact Int.le_refl _
  · exact Int.le_of_lt (h.ord i j (by omega) hj)
theorem LS.at (h : LS T f) {x : Int} (hx : x ∈ T) (h0 : 0 ≤ x) : ∃ (i : Nat) (hi : i < f.length), f[i].tm = x := by
  obtain ⟨y, hy, rfl⟩ := (h.mem x).2 ⟨hx, h0⟩
  obtain ⟨i, hi, rfl⟩ := List.getElem_of_mem hy
  exact ⟨i, hi, rfl⟩
theorem LS.tm0 (h : LS T f) {i : Nat} (hi : i < f.length) : f[i].tm ∈ T ∧ 0 ≤ f[i].tm := (h.mem _).1 ⟨_, List.getElem_mem hi, rfl⟩
theorem LS.first (h : LS T f) (h0 : (0 : Int) ∈ T) : ∃ (hl : 0 < f.length), f[0].tm = 0 := by
  obtain ⟨i, hi, e⟩ := h.at h0 (Int.le_refl 0)
  have h1 := h.le (Nat.zero_le i) hi
  have h2 := (h.tm0 (show 0 < f.length by omega)).2
  exact ⟨by omega, by omega⟩
theorem LS.vals (h : LS T f) {i : Nat} (hi : i < f.length) : f[i].val = cnt T f[i].tm := h.val _ (List.getElem_mem hi)
theorem LS.up (h : LS T f) {i j : Nat} (hij : i < j) (hj : j < f.length) : (f[i]'(by omega)).val < f[j].val := by
  rw [h.vals (by omega), h.vals hj]
  have h1 := h.ord i j hij hj
  have h2 := h.tm0 hj
  exact Int.ofNat_lt.2 (cnt_lt h2.1 h2.2 h1 (Int.le_refl _))
theorem LS.pos (h : LS T f) {i : Nat} (hi : i < f.length) : 1 ≤ f[i].val := by
  rw [h.vals hi]
  have h2 := h.tm0 hi
  have := cnt_lt (a := f[i].tm - 1) h2.1 h2.2 (by omega) (Int.le_refl _)
  omega
theorem LS.len (h : LS T f) : f.length ≤ T.length := by
  cases hl : f.length with
  | zero => omega
  | succ n =>
    have h1 : ∀ i (hi : i < f.length), (i : Int) + 1 ≤ f[i].val := fun i => by
      induction i with
      | zero => intro hi; exact h.pos hi
      | succ i ih => intro hi; have := ih (by omega); have := h.up (i := i) (j := i + 1) (by omega) hi; omega
    have h2 := h1 n (by omega)
    rw [h.vals (by omega)] at h2
    have h3 : cnt T f[n].tm ≤ T.length := List.countP_le_length
    omega
theorem LS.ok (h : LS T f) (hl : T.length ≤ 1000) (hT : ∀ x ∈ T, x ≤ 1099511627776) : LevOk f := by
  have hlen := h.len
  refine ⟨by omega, fun x hx => ?_, fun i hi => ?_, fun hi => ?_⟩
  · obtain ⟨i, hi, rfl⟩ := List.getElem_of_mem hx
    have h1 := h.tm0 hi
    have h2 := hT _ h1.1
    have h3 := h.pos hi
    have h4 := h.vals hi
    have h5 : cnt T f[i].tm ≤ T.length := List.countP_le_length
    omega
  · have := h.up (i := i) (j := i + 1) (by omega) hi
    exact ⟨h.ord i (i + 1) (Nat.lt_succ_self i) hi, by omega⟩
  · have := h.pos hi; omega
/-- The value at a time is the number of nodes that are reached. -/
theorem LS.value (h : LS T f) (h0 : (0 : Int) ∈ T) {t : Int} (ht : 0 ≤ t) {i : Nat} (hi : IsCut f t i) : valI f t i = cnt T t := by
  obtain ⟨hl, hf⟩ := h.first h0
  obtain ⟨c1, c2, c3⟩ := hi
  unfold valI
  by_cases e : i < f.length ∧ (gl f i).tm = t
  · rw [if_pos e, gl_get e.1]
    have e2 := e.2
    rw [gl_get e.1] at e2
    rw [h.vals e.1, e2]
  · rw [if_neg e]
    by_cases ez : i = 0
    · subst ez
      have := c3 0 hl (Nat.le_refl _)
      exact absurd ⟨hl, by rw [gl_get hl]; omega⟩ e
    · rw [if_neg ez]
      have hi1 : i - 1 < f.length := by omega
      rw [gl_get hi1, h.vals hi1]
      have h1 := c2 (i - 1) hi1 (by omega)
      congr 1
      refine cnt_same (by omega) fun x hx hx0 hxt => ?_
      obtain ⟨j, hj, rfl⟩ := h.at hx hx0
      by_cases e2 : j ≤ i - 1
      · exact h.le e2 hi1
      · have h3 := c3 j hj (by omega)
        exfalso
        have e3 : f[j].tm = t := by omega
        have hij : i < f.length := by omega
        have h4 := c3 i hij (Nat.le_refl _)
        have h5 := h.le (show i ≤ j by omega) hj
        exact e ⟨hij, by rw [gl_get hij]; omega⟩
end

end Go.Proofs.YtifopbkhflpbfaaGreat
