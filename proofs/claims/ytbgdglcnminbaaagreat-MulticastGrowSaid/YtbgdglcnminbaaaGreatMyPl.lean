/- Layer 27 (booking), the reference, plain: the free intervals, and the first time in them, are what Fit finds. · Layer 35, the reference, plain: rounds over the contacts reach the earliest times. · Layer 35, the reference, plain: the preferred last hop. -/
import Derived.Test.YtbgdglcnminbaaaGreatMcGqr
namespace Go.Proofs.YtbgdglcnminbaaaGreat
set_option linter.unusedVariables false
set_option linter.unusedSimpArgs false
open Go.RowKit

def gapStep (s : Int × List Spn) (x : Spn) : Int × List Spn := (x.til, addS s.1 x.fr s.2)
def gapsW (c : Con) (l : List Bk) (i : Int) : Int × List Spn := (busyL l i).foldl gapStep (c.st, [])
def gapsL (c : Con) (l : List Bk) (i : Int) : List Spn := addS (gapsW c l i).1 c.en (gapsW c l i).2
def firB (t n : Int) (x : Spn) : Bool := decide (max x.fr t + n ≤ x.til ∧ max x.fr t < x.til)
def firstL (t n : Int) : List Spn → Option Int
  | [] => none
  | x :: l => if firB t n x = true then some (max x.fr t) else firstL t n l
def firstT (t n : Int) (l : List Spn) : Int := match firstL t n l with | some b => b | none => -1
theorem firstL_skip {t n : Int} {l : List Spn} {k : Nat} (hk : k < l.length) (h : firB t n l[k] = false) : firstL t n (l.drop k) = firstL t n (l.drop (k + 1)) := by
  rw [List.drop_eq_getElem_cons hk]; show (if _ then _ else _) = _; rw [if_neg (by rw [h]; decide)]
theorem firstL_here {t n : Int} {l : List Spn} {k : Nat} (hk : k < l.length) (h : firB t n l[k] = true) : firstL t n (l.drop k) = some (max l[k].fr t) := by
  rw [List.drop_eq_getElem_cons hk]; show (if _ then _ else _) = _; rw [if_pos h]
theorem firstL_append {t n : Int} : ∀ (l m : List Spn), firstL t n (l ++ m) = match firstL t n l with | some b => some b | none => firstL t n m
  | [], m => rfl
  | x :: l, m => by
    rw [List.cons_append]
    show (if firB t n x = true then some (max x.fr t) else firstL t n (l ++ m)) = match (if firB t n x = true then some (max x.fr t) else firstL t n l) with | some b => some b | none => firstL t n m
    split
    · rfl
    · exact firstL_append l m
theorem firstL_addS {t n a u : Int} (hn : 1 ≤ n) (out : List Spn) : firstL t n (addS a u out) = match firstL t n out with | some b => some b | none => if max a t < u ∧ n ≤ u - max a t then some (max a t) else none := by
  unfold addS
  split
  · rename_i h
    rw [firstL_append]
    cases firstL t n out with
    | some b => rfl
    | none =>
      show (if firB t n ⟨a, u⟩ = true then some (max a t) else none) = if _ then _ else _
      unfold firB
      dsimp only
      by_cases h2 : max a t < u ∧ n ≤ u - max a t
      · rw [if_pos h2, if_pos (decide_eq_true (by omega))]
      · rw [if_neg h2, if_neg (by rw [decide_eq_true_eq]; omega)]
  · rename_i h
    rw [if_neg (by omega)]
    cases firstL t n out <;> rfl
theorem first_fold {t n en : Int} (hn : 1 ≤ n) : ∀ (m : List Spn) (a : Int) (out : List Spn), m.Pairwise (fun x y => x.til ≤ y.fr) → (∀ x ∈ m, x.fr < x.til) → (∀ x ∈ m, a ≤ x.til) →
    firstL t n (addS (m.foldl gapStep (a, out)).1 en (m.foldl gapStep (a, out)).2) = match firstL t n out with | some b => some b | none => fitW n en (max a t) m
  | [], a, out, _, _, _ => by
    rw [List.foldl_nil, firstL_addS hn]; rfl
  | x :: m, a, out, hp, hv, ha => by
    obtain ⟨p1, p2⟩ := List.pairwise_cons.1 hp
    have v1 := hv x (List.mem_cons_self ..)
    have a1 := ha x (List.mem_cons_self ..)
    rw [List.foldl_cons]
    show firstL t n (addS (m.foldl gapStep (x.til, addS a x.fr out)).1 en (m.foldl gapStep (x.til, addS a x.fr out)).2) = _
    rw [first_fold hn m _ _ p2 (fun y hy => hv y (List.mem_cons_of_mem _ hy)) (fun y hy => by
      have := p1 y hy
      have := hv y (List.mem_cons_of_mem _ hy)
      omega), firstL_addS hn]
    cases firstL t n out with
    | some b => rfl
    | none =>
      show (match (if max a t < x.fr ∧ n ≤ x.fr - max a t then some (max a t) else none : Option Int) with | some b => some b | none => fitW n en (max x.til t) m) = (if max a t < x.fr ∧ n ≤ x.fr - max a t then some (max a t) else fitW n en (max (max a t) x.til) m)
      by_cases hc : max a t < x.fr ∧ n ≤ x.fr - max a t
      · rw [if_pos hc, if_pos hc]
      · rw [if_neg hc, if_neg hc, show max (max a t) x.til = max x.til t by omega]
theorem busy_pw {l : List Bk} {i : Int} (h : l.Pairwise (fun x y => x.con = y.con → x.en ≤ y.beg)) : (busyL l i).Pairwise (fun x y => x.til ≤ y.fr) := by
  unfold busyL
  rw [List.pairwise_map]
  have h1 : (l.filter (fun b => b.con == i)).Pairwise (fun x y => x.con = y.con → x.en ≤ y.beg) := h.sublist List.filter_sublist
  refine List.Pairwise.imp_of_mem ?_ h1
  intro a b ha hb hab
  have a2 := (List.mem_filter.1 ha).2
  have b2 := (List.mem_filter.1 hb).2
  simp at a2 b2
  exact hab (by omega)
/-- The first time in the free intervals is the one that Fit finds. -/
theorem first_fit {p : Pln} {bk : List Bk} (h : p.bkChk bk = 0) {i : Nat} {t n : Int} (hn : 1 ≤ n) : firstL t n (gapsL (gc p.cons (i : Int)) bk i) = fitL n (freeL (gc p.cons (i : Int)) bk i t) := by
  have hv : ∀ x ∈ busyL bk (i : Int), x.fr < x.til ∧ (gc p.cons (i : Int)).st ≤ x.fr := fun x hx => by
    unfold busyL at hx
    obtain ⟨b, hb, rfl⟩ := List.mem_map.1 hx
    obtain ⟨hb1, hb2⟩ := List.mem_filter.1 hb
    simp at hb2
    have := of_decide_eq_true ((Pln.bkChk_ok h).2.2 b hb1)
    rw [hb2] at this
    dsimp only
    omega
  rw [fit_is hn]
  unfold gapsL gapsW
  rw [first_fold hn _ _ _ (busy_pw (bk_pw h)) (fun x hx => (hv x hx).1) (fun x hx => by have := hv x hx; omega)]
  rfl
theorem busyL_in {p : Pln} {bk : List Bk} (h : p.bkChk bk = 0) {i : Nat} : ∀ x ∈ busyL bk (i : Int), (gc p.cons (i : Int)).st ≤ x.fr ∧ x.fr < x.til ∧ x.til ≤ (gc p.cons (i : Int)).en := fun x hx => by
  unfold busyL at hx
  obtain ⟨b, hb, rfl⟩ := List.mem_map.1 hx
  obtain ⟨hb1, hb2⟩ := List.mem_filter.1 hb
  simp at hb2
  have := of_decide_eq_true ((Pln.bkChk_ok h).2.2 b hb1)
  rw [hb2] at this
  dsimp only
  omega
theorem gaps_fold {lo hi : Int} : ∀ (m : List Spn) (a : Int) (out : List Spn), (∀ x ∈ m, lo ≤ x.fr ∧ x.fr < x.til ∧ x.til ≤ hi) → lo ≤ a → a ≤ hi → (∀ x ∈ out, lo ≤ x.fr ∧ x.fr < x.til ∧ x.til ≤ hi) →
    (lo ≤ (m.foldl gapStep (a, out)).1 ∧ (m.foldl gapStep (a, out)).1 ≤ hi) ∧ ∀ x ∈ (m.foldl gapStep (a, out)).2, lo ≤ x.fr ∧ x.fr < x.til ∧ x.til ≤ hi
  | [], a, out, _, h1, h2, ho => ⟨⟨h1, h2⟩, ho⟩
  | x :: m, a, out, hm, h1, h2, ho => by
    have hx := hm x (List.mem_cons_self ..)
    rw [List.foldl_cons]
    refine gaps_fold m _ _ (fun y hy => hm y (List.mem_cons_of_mem _ hy)) (by omega) (by omega) (fun y hy => ?_)
    unfold addS at hy
    split at hy
    · rcases List.mem_append.1 hy with hy | hy
      · exact ho y hy
      · rw [List.mem_singleton] at hy; subst hy; dsimp only; omega
    · exact ho y hy
theorem gaps_len : ∀ (m : List Spn) (s : Int × List Spn), (m.foldl gapStep s).2.length ≤ s.2.length + m.length
  | [], s => by simp
  | x :: m, s => by
    rw [List.foldl_cons]
    have := gaps_len m (gapStep s x)
    have h2 : (gapStep s x).2.length ≤ s.2.length + 1 := by
      unfold gapStep addS
      dsimp only
      split
      · rw [List.length_append, List.length_singleton]; omega
      · omega
    rw [List.length_cons]
    omega
theorem gapsL_in {p : Pln} {bk : List Bk} (h : p.bkChk bk = 0) {i : Nat} (hi : i < p.cons.length) : ∀ x ∈ gapsL (gc p.cons (i : Int)) bk i, 0 ≤ x.fr ∧ x.fr < x.til ∧ x.til ≤ 1099511627776 := by
  have hc : (gc p.cons (i : Int)).Ok := by
    rw [gc_get (i := (i : Int)) (by omega)]
    exact ((Pln.ok_of (Pln.bkChk_ok h).1).con _ (List.getElem_mem _)).1
  have g := gaps_fold (lo := (gc p.cons (i : Int)).st) (hi := (gc p.cons (i : Int)).en) (busyL bk i) (gc p.cons (i : Int)).st [] (busyL_in h) (Int.le_refl _) (by have := hc.st0; have := hc.st1; omega) (fun x hx => by cases hx)
  have h1 := hc.st0
  have h2 := hc.en1
  have h3 := hc.rng0
  intro x hx
  have key : (gc p.cons (i : Int)).st ≤ x.fr ∧ x.fr < x.til ∧ x.til ≤ (gc p.cons (i : Int)).en := by
    unfold gapsL gapsW addS at hx
    split at hx
    · rcases List.mem_append.1 hx with hx | hx
      · exact g.2 x hx
      · rw [List.mem_singleton] at hx; subst hx; dsimp only; omega
    · exact g.2 x hx
  omega
theorem gapsL_len {c : Con} {bk : List Bk} {i : Int} : (gapsL c bk i).length ≤ bk.length + 1 := by
  have h1 := gaps_len (busyL bk i) (c.st, [])
  have h2 := busyL_len bk i
  unfold gapsL gapsW addS
  split
  · rw [List.length_append, List.length_singleton]; simp only [List.length_nil] at h1; omega
  · simp only [List.length_nil] at h1; omega
theorem mhop_first {p : Pln} {bk : List Bk} (h : p.bkChk bk = 0) {q : Req} (hq : 1 ≤ q.size ∧ q.size ≤ 65536) {i : Nat} (hi : i < p.cons.length) (t : Int) : p.mhop bk q i t = match firstL t ((gc p.cons (i : Int)).dur q.size) (gapsL (gc p.cons (i : Int)) bk i) with
    | none => none
    | some b => if b + (gc p.cons (i : Int)).dur q.size + (gc p.cons (i : Int)).rng ≤ q.dead then some (hpAt (gc p.cons (i : Int)) i q.size b) else none := by
  have G : GC p bk q := ⟨h, hq.1, hq.2⟩
  rw [first_fit h (G.dur hi)]
  rfl

end Go.Proofs.YtbgdglcnminbaaaGreat

namespace Go.Proofs.YtbgdglcnminbaaaGreat
set_option linter.unusedVariables false
set_option linter.unusedSimpArgs false
open Go.RowKit

/-- One contact of a round. -/
def Pln.refStep (p : Pln) (bk : List Bk) (q : Req) (tree : List Int) (out : List Int) (k : Nat) : List Int :=
  if gi out (gc p.cons (k : Int)).src < 0 ∨ 0 ≤ gi tree (gc p.cons (k : Int)).dst then out else
    match p.mhop bk q k (gi out (gc p.cons (k : Int)).src) with
    | none => out
    | some h => if gi out (gc p.cons (k : Int)).dst < 0 ∨ h.arr < gi out (gc p.cons (k : Int)).dst then out.set (gc p.cons (k : Int)).dst.toNat h.arr else out
def Pln.refR (p : Pln) (bk : List Bk) (q : Req) (tree : List Int) (out : List Int) : Nat → List Int
  | 0 => out
  | k + 1 => p.refStep bk q tree (p.refR bk q tree out k) k
def Pln.refIt (p : Pln) (bk : List Bk) (q : Req) (tree : List Int) : Nat → List Int
  | 0 => tree.take p.quo.length
  | r + 1 => p.refR bk q tree (p.refIt bk q tree r) p.cons.length
theorem refStep_len {p : Pln} {bk : List Bk} {q : Req} {tree out : List Int} {k : Nat} : (p.refStep bk q tree out k).length = out.length := by
  unfold Pln.refStep
  split
  · rfl
  · split
    · rfl
    · split
      · rw [List.length_set]
      · rfl
theorem refR_len {p : Pln} {bk : List Bk} {q : Req} {tree out : List Int} : ∀ k, (p.refR bk q tree out k).length = out.length
  | 0 => rfl
  | k + 1 => by show (p.refStep bk q tree (p.refR bk q tree out k) k).length = _; rw [refStep_len, refR_len k]
theorem refIt_len {p : Pln} {bk : List Bk} {q : Req} {tree : List Int} (h : p.quo.length ≤ tree.length) : ∀ r, (p.refIt bk q tree r).length = p.quo.length
  | 0 => by show (tree.take _).length = _; rw [List.length_take]; omega
  | r + 1 => by show (p.refR bk q tree (p.refIt bk q tree r) p.cons.length).length = _; rw [refR_len, refIt_len h r]

/-- What holds of the times in a round. -/
structure RfI (p : Pln) (tree T A : List Int) : Prop where
  len : A.length = p.quo.length
  ge : ∀ n : Int, 0 ≤ n → n < p.quo.length → 0 ≤ gi A n → 0 ≤ gi T n ∧ gi T n ≤ gi A n
  tr : ∀ n : Int, 0 ≤ n → n < p.quo.length → 0 ≤ gi tree n → gi A n = gi tree n
  neg : ∀ n : Int, 0 ≤ n → n < p.quo.length → gi A n < 0 → gi A n = -1
theorem gi_take {m : List Int} {N : Nat} {n : Int} (h0 : 0 ≤ n) (h : n < N) : gi (m.take N) n = gi m n := by
  unfold gi
  rw [List.getD_eq_getElem?_getD, List.getD_eq_getElem?_getD, List.getElem?_take, if_pos (by omega)]
theorem gi_setN {m : List Int} {i j v : Int} (hi : 0 ≤ i) (hi2 : i < m.length) (hj : 0 ≤ j) : gi (m.set i.toNat v) j = if j = i then v else gi m j := by
  rw [gi_set (by omega)]
  by_cases e : j = i
  · subst e; rw [if_pos rfl, if_pos rfl]
  · rw [if_neg (by omega), if_neg e]
/-- What a step does, where it does something. -/
theorem refStep_cases {p : Pln} {bk : List Bk} {q : Req} {tree T A : List Int} (G : GC p bk q) (ht : tree.length = 16) (hE : p.EarlP bk q tree T) (hI : RfI p tree T A) {k : Nat} (hk : k < p.cons.length) :
    p.refStep bk q tree A k = A ∨ ∃ v, p.refStep bk q tree A k = A.set (gc p.cons (k : Int)).dst.toNat v ∧ gi tree (gc p.cons (k : Int)).dst < 0 ∧ 0 ≤ gi T (gc p.cons (k : Int)).dst ∧ gi T (gc p.cons (k : Int)).dst ≤ v ∧ (gi A (gc p.cons (k : Int)).dst < 0 ∨ v < gi A (gc p.cons (k : Int)).dst) := by
  have hc := G.con hk
  have hs0 := hc.1.src0
  have hd0 := hc.1.dst0
  unfold Pln.refStep
  split
  · exact .inl rfl
  · rename_i h1
    split
    · exact .inl rfl
    · rename_i h hm
      split
      · rename_i h2
        right
        refine ⟨h.arr, rfl, by omega, ?_, ?_, h2⟩
        all_goals
          have g := hI.ge _ hs0 (by omega) (by omega)
          obtain ⟨h', hm', hle⟩ := mhop_mono (G.dur hk) g.2 hm
          have hI' : p.hopI bk q tree T k = some h' := by
            unfold Pln.hopI
            rw [if_neg (by omega)]
            exact hm'
          have hmem : h' ∈ p.hopsL bk q tree T := hopsK_of hI' hk
          have hfix := eFold_fix _ _ hE.2 h' hmem
          obtain ⟨b, _, hh, _⟩ := mhop_some hm'
          have hcon : h'.con = (k : Int) := by rw [hh]; rfl
          rw [hcon] at hfix
          omega
      · exact .inl rfl
theorem RfI.step {p : Pln} {bk : List Bk} {q : Req} {tree T A : List Int} (G : GC p bk q) (ht : tree.length = 16) (hE : p.EarlP bk q tree T) (hI : RfI p tree T A) {k : Nat} (hk : k < p.cons.length) : RfI p tree T (p.refStep bk q tree A k) := by
  have hc := G.con hk
  have hd0 := hc.1.dst0
  rcases refStep_cases G ht hE hI hk with e | ⟨v, e, h1, h2, h3, _⟩
  · rw [e]; exact hI
  · rw [e]
    have hl := hI.len
    refine ⟨by rw [List.length_set]; exact hl, fun n n0 n1 hn => ?_, fun n n0 n1 hn => ?_, fun n n0 n1 hn => ?_⟩
    · rw [gi_setN hd0 (by omega) n0] at hn ⊢
      split at hn
      · rename_i e2; rw [if_pos e2, e2]; exact ⟨h2, h3⟩
      · rename_i e2; rw [if_neg e2]; exact hI.ge n n0 n1 hn
    · rw [gi_setN hd0 (by omega) n0, if_neg (by intro e2; rw [e2] at hn; omega)]
      exact hI.tr n n0 n1 hn
    · rw [gi_setN hd0 (by omega) n0] at hn ⊢
      split at hn
      · omega
      · rename_i e2; rw [if_neg e2]; exact hI.neg n n0 n1 hn
/-- A node whose time is reached keeps it. -/
theorem RfI.keep {p : Pln} {bk : List Bk} {q : Req} {tree T A : List Int} (G : GC p bk q) (ht : tree.length = 16) (hE : p.EarlP bk q tree T) (hI : RfI p tree T A) {k : Nat} (hk : k < p.cons.length) {n : Int} (n0 : 0 ≤ n) (hn : 0 ≤ gi T n) (hx : gi A n = gi T n) : gi (p.refStep bk q tree A k) n = gi T n := by
  have hc := G.con hk
  have hd0 := hc.1.dst0
  rcases refStep_cases G ht hE hI hk with e | ⟨v, e, h1, h2, h3, h4⟩
  · rw [e]; exact hx
  · rw [e, gi_setN hd0 (by rw [hI.len]; omega) n0]
    split
    · rename_i e2
      subst e2
      omega
    · exact hx
/-- The contact whose hop arrives at the time of the node. -/
theorem RfI.hit {p : Pln} {bk : List Bk} {q : Req} {tree T A : List Int} (G : GC p bk q) (ht : tree.length = 16) (hE : p.EarlP bk q tree T) (hI : RfI p tree T A) {k : Nat} (hk : k < p.cons.length) {h : Hp}
    (hs : gi A (gc p.cons (k : Int)).src = gi T (gc p.cons (k : Int)).src) (hs0 : 0 ≤ gi T (gc p.cons (k : Int)).src) (htd : gi tree (gc p.cons (k : Int)).dst < 0) (hm : p.mhop bk q k (gi T (gc p.cons (k : Int)).src) = some h) (ha : h.arr = gi T (gc p.cons (k : Int)).dst) (hT : 0 ≤ gi T (gc p.cons (k : Int)).dst) :
    gi (p.refStep bk q tree A k) (gc p.cons (k : Int)).dst = gi T (gc p.cons (k : Int)).dst := by
  have hc := G.con hk
  have hd0 := hc.1.dst0
  have hl := hI.len
  unfold Pln.refStep
  rw [hs, if_neg (by omega), hm]
  dsimp only
  split
  · rw [gi_setN hd0 (by omega) hd0, if_pos rfl]; exact ha
  · rename_i h2
    have g := hI.ge _ hd0 (by omega) (by omega)
    omega
/-- The times of the nodes below a rank are reached. -/
def Exact (p : Pln) (T A : List Int) (r : Nat) : Prop := ∀ n : Int, 0 ≤ n → n < p.quo.length → 0 ≤ gi T n → rank (T.take p.quo.length) (gi T n) < r → gi A n = gi T n
theorem refR_all {p : Pln} {bk : List Bk} {q : Req} {tree T A : List Int} (G : GC p bk q) (ht : tree.length = 16) (hE : p.EarlP bk q tree T) (hI : RfI p tree T A) {r : Nat} (hx : Exact p T A r) : ∀ k, k ≤ p.cons.length →
    RfI p tree T (p.refR bk q tree A k) ∧ Exact p T (p.refR bk q tree A k) r ∧ ∀ n : Int, 0 ≤ n → n < p.quo.length → 0 ≤ gi T n → rank (T.take p.quo.length) (gi T n) < r + 1 → ∀ i h, i < k → (gc p.cons (i : Int)).dst = n → 0 ≤ gi T (gc p.cons (i : Int)).src → gi tree n < 0 → p.mhop bk q i (gi T (gc p.cons (i : Int)).src) = some h → h.arr = gi T n → gi T (gc p.cons (i : Int)).src < gi T n →
      gi (p.refR bk q tree A k) n = gi T n
  | 0, _ => ⟨hI, hx, fun _ _ _ _ _ i _ hi => by omega⟩
  | k + 1, hk => by
    obtain ⟨h1, h2, h3⟩ := refR_all G ht hE hI hx k (by omega)
    have hk2 : k < p.cons.length := by omega
    refine ⟨h1.step G ht hE hk2, fun n n0 n1 hn hr => h1.keep G ht hE hk2 n0 hn (h2 n n0 n1 hn hr), fun n n0 n1 hn hr i h hi hd hs htr hm ha hlt => ?_⟩
    by_cases e : i < k
    · exact h1.keep G ht hE hk2 n0 hn (h3 n n0 n1 hn hr i h e hd hs htr hm ha hlt)
    · obtain rfl : i = k := by omega
      have hc := G.con hk2
      have hs0 := hc.1.src0
      have hTl := EarlP.len ht hE
      have hn16 := G.n16
      have hrk : rank (T.take p.quo.length) (gi T (gc p.cons (i : Int)).src) < r := by
        have : rank (T.take p.quo.length) (gi T (gc p.cons (i : Int)).src) < rank (T.take p.quo.length) (gi T n) := by
          refine rank_lt ?_ hs hlt
          rw [← gi_take (N := p.quo.length) hs0 (by omega)]
          exact gi_mem (by rw [List.length_take]; omega)
        omega
      have hxs := h2 _ hs0 (by omega) hs hrk
      subst hd
      exact h1.hit G ht hE hk2 hxs hs htr hm ha hn
theorem refIt_all {p : Pln} {bk : List Bk} {q : Req} {tree T : List Int} (G : GC p bk q) (ht : tree.length = 16) (hE : p.EarlP bk q tree T) (hneg : ∀ n : Int, 0 ≤ n → n < p.quo.length → gi tree n < 0 → gi tree n = -1) : ∀ r, RfI p tree T (p.refIt bk q tree r) ∧ Exact p T (p.refIt bk q tree r) r
  | 0 => by
    have hn16 := G.n16
    refine ⟨⟨refIt_len (by omega) 0, fun n n0 n1 hn => ?_, fun n n0 n1 _ => gi_take n0 n1, fun n n0 n1 hn => ?_⟩, fun _ _ _ _ h => by omega⟩
    · have e : gi (p.refIt bk q tree 0) n = gi tree n := gi_take n0 n1
      rw [e] at hn ⊢
      rw [EarlP.tr G ht hE n0 (by omega) hn]
      exact ⟨hn, Int.le_refl _⟩
    · have e : gi (p.refIt bk q tree 0) n = gi tree n := gi_take n0 n1
      rw [e] at hn ⊢
      exact hneg n n0 n1 hn
  | r + 1 => by
    obtain ⟨h1, h2⟩ := refIt_all G ht hE hneg r
    obtain ⟨g1, g2, g3⟩ := refR_all G ht hE h1 h2 p.cons.length (Nat.le_refl _)
    have hn16 := G.n16
    refine ⟨g1, fun n n0 n1 hn hr => ?_⟩
    by_cases e : 0 ≤ gi tree n
    · exact (g1.tr n n0 n1 e).trans (EarlP.tr G ht hE n0 (by omega) e).symm
    · obtain ⟨h, hm, hd, ha⟩ := EarlP.hop G ht hE n0 (by omega) (by omega) hn
      have hp := hopsK_mem (Nat.le_refl _) hm
      obtain ⟨i, hi, hI⟩ := hp
      have hfa : p.HopP bk q tree T h := ⟨i, hi, hI⟩
      unfold Pln.hopI at hI
      split at hI
      · cases hI
      · rename_i hns
        obtain ⟨b, hb, hh, hdd⟩ := mhop_some hI
        have hcon : h.con = (i : Int) := by rw [hh]; rfl
        rw [hcon] at hd
        have hlate : gi T (gc p.cons (i : Int)).src < h.arr := by
          have f : HopF p bk q tree T h i := ⟨hi, hcon, by omega, by omega, ⟨b, hb, hh⟩, hdd⟩
          have := f.late G.bk ⟨G.q1, G.q2⟩
          omega
        exact g3 n n0 n1 hn hr i h hi hd (by omega) (by omega) hI ha (by omega)
/-- As many rounds as there are nodes reach the earliest times. -/
theorem ref_times {p : Pln} {bk : List Bk} {q : Req} {tree T : List Int} (G : GC p bk q) (ht : tree.length = 16) (hE : p.EarlP bk q tree T) (hneg : ∀ n : Int, 0 ≤ n → n < p.quo.length → gi tree n < 0 → gi tree n = -1) :
    (p.refIt bk q tree p.quo.length).length = p.quo.length ∧ ∀ n : Int, 0 ≤ n → n < p.quo.length → (0 ≤ gi T n → gi (p.refIt bk q tree p.quo.length) n = gi T n) ∧ (gi T n < 0 → gi (p.refIt bk q tree p.quo.length) n = -1) := by
  obtain ⟨h1, h2⟩ := refIt_all G ht hE hneg p.quo.length
  have hTl := EarlP.len ht hE
  have hn16 := G.n16
  refine ⟨h1.len, fun n n0 n1 => ⟨fun hn => h2 n n0 n1 hn ?_, fun hn => h1.neg n n0 n1 ?_⟩⟩
  · have hm : gi T n ∈ T.take p.quo.length := by
      rw [← gi_take (N := p.quo.length) n0 n1]
      exact gi_mem (by rw [List.length_take]; omega)
    have := rank_bd hm
    rw [List.length_take] at this
    omega
  · apply Classical.byContradiction
    intro h
    have := h1.ge n n0 n1 (by omega)
    omega

end Go.Proofs.YtbgdglcnminbaaaGreat

namespace Go.Proofs.YtbgdglcnminbaaaGreat
set_option linter.unusedVariables false
set_option linter.unusedSimpArgs false
open Go.RowKit

/-- One contact of the search for the last hop. -/
def Pln.rlStep (p : Pln) (bk : List Bk) (q : Req) (A : List Int) (n : Int) (best : Option Hp) (k : Nat) : Option Hp :=
  if (gc p.cons (k : Int)).dst ≠ n ∨ gi A (gc p.cons (k : Int)).src = -1 then best else
    match p.mhop bk q k (gi A (gc p.cons (k : Int)).src) with
    | none => best
    | some h => if h.arr ≠ gi A n then best else
      match best with
      | none => some h
      | some d => if gi A (gc p.cons (k : Int)).src < gi A (gc p.cons d.con).src ∨ (gi A (gc p.cons (k : Int)).src = gi A (gc p.cons d.con).src ∧ (gc p.cons (k : Int)).src < (gc p.cons d.con).src) then some h else some d
def Pln.rlast (p : Pln) (bk : List Bk) (q : Req) (A : List Int) (n : Int) : Nat → Option Hp
  | 0 => none
  | k + 1 => p.rlStep bk q A n (p.rlast bk q A n k) k
theorem minBy_app {f : Hp → Hp → Int} {l : List Hp} {y : Hp} (h : l ≠ []) : minBy f (l ++ [y]) = if f y (minBy f l) < 0 then y else minBy f l := by
  cases l with
  | nil => exact absurd rfl h
  | cons x t =>
    show (t ++ [y]).foldl (fun m y => if f y m < 0 then y else m) x = _
    rw [List.foldl_append]
    rfl
/-- What stands in a list of last hops, as an option. -/
def minO (f : Hp → Hp → Int) (l : List Hp) : Option Hp := if l = [] then none else some (minBy f l)
theorem hopsK_con {p : Pln} {bk : List Bk} {q : Req} {tree T : List Int} {h : Hp} : ∀ {k : Nat}, h ∈ p.hopsK bk q tree T k → h.con < k ∧ 0 ≤ h.con
  | 0, hm => by cases hm
  | k + 1, hm => by
    unfold Pln.hopsK at hm
    split at hm
    · rename_i h' e
      rw [List.mem_append] at hm
      rcases hm with hm | hm
      · have := hopsK_con hm; omega
      · rw [List.mem_singleton] at hm
        subst hm
        unfold Pln.hopI at e
        split at e
        · cases e
        · obtain ⟨b, _, hh, _⟩ := mhop_some e
          have : h.con = (k : Int) := by rw [hh]; rfl
          omega
    · have := hopsK_con hm; omega
theorem lastC_neg {p : Pln} {T : List Int} {a b : Hp} (h : b.con < a.con) : p.lastC T a b < 0 ↔ gi T (gc p.cons a.con).src < gi T (gc p.cons b.con).src ∨ (gi T (gc p.cons a.con).src = gi T (gc p.cons b.con).src ∧ (gc p.cons a.con).src < (gc p.cons b.con).src) := by
  unfold Pln.lastC
  have h3 : cmpI a.con b.con = 1 := by unfold cmpI; rw [if_neg (by omega), if_pos h]
  rw [h3]
  unfold orL orL orL
  generalize gi T (gc p.cons a.con).src = x
  generalize gi T (gc p.cons b.con).src = y
  generalize (gc p.cons a.con).src = u
  generalize (gc p.cons b.con).src = v
  unfold cmpI
  by_cases e1 : x < y
  · rw [if_pos e1, if_neg (by omega)]; omega
  · rw [if_neg e1]
    by_cases e2 : y < x
    · rw [if_pos e2, if_neg (by omega)]; omega
    · rw [if_neg e2, if_pos rfl]
      by_cases e3 : u < v
      · rw [if_pos e3, if_neg (by omega)]; omega
      · rw [if_neg e3]
        by_cases e4 : v < u
        · rw [if_pos e4, if_neg (by omega)]; omega
        · rw [if_neg e4, if_pos rfl, if_neg (by omega)]; omega
theorem rlast_is {p : Pln} {bk : List Bk} {q : Req} {tree T A : List Int} (G : GC p bk q) (ht : tree.length = 16) (hE : p.EarlP bk q tree T)
    (hA : ∀ n : Int, 0 ≤ n → n < p.quo.length → (0 ≤ gi T n → gi A n = gi T n) ∧ (gi T n < 0 → gi A n = -1)) {n : Int} (n0 : 0 ≤ n) (n1 : n < p.quo.length) (hn : gi tree n < 0) (hT : 0 ≤ gi T n) :
    ∀ k, k ≤ p.cons.length → p.rlast bk q A n k = minO (p.lastC T) ((p.hopsK bk q tree T k).filter (p.lastF T n))
  | 0, _ => rfl
  | k + 1, hk => by
    have ih := rlast_is G ht hE hA n0 n1 hn hT k (by omega)
    have hc := G.con (show k < p.cons.length by omega)
    have hs0 := hc.1.src0
    have hAs := hA _ hs0 (by omega)
    have hAn := (hA n n0 n1).1 hT
    have hHK : p.hopsK bk q tree T (k + 1) = match p.hopI bk q tree T k with
      | some h => p.hopsK bk q tree T k ++ [h]
      | none => p.hopsK bk q tree T k := rfl
    show p.rlStep bk q A n (p.rlast bk q A n k) k = _
    rw [ih, hHK]
    unfold Pln.rlStep
    by_cases hT2 : gi T (gc p.cons (k : Int)).src < 0
    · have e : p.hopI bk q tree T k = none := by unfold Pln.hopI; rw [if_pos (.inl hT2)]
      rw [e, if_pos (.inr (hAs.2 hT2))]
    · have eA := hAs.1 (by omega)
      rw [eA]
      by_cases hd : (gc p.cons (k : Int)).dst = n
      · rw [if_neg (by omega)]
        have e : p.hopI bk q tree T k = p.mhop bk q k (gi T (gc p.cons (k : Int)).src) := by unfold Pln.hopI; rw [if_neg (by rw [hd]; omega)]
        rw [e]
        cases hm : p.mhop bk q k (gi T (gc p.cons (k : Int)).src) with
        | none => rfl
        | some h =>
          dsimp only
          obtain ⟨b, _, hh, _⟩ := mhop_some hm
          have hcon : h.con = (k : Int) := by rw [hh]; rfl
          rw [List.filter_append, hAn]
          have hF : p.lastF T n h = decide (h.arr = gi T n) := by
            unfold Pln.lastF
            rw [hcon, hd]
            by_cases e2 : h.arr = gi T n
            · simp [e2]
            · simp [e2]
          by_cases e2 : h.arr = gi T n
          · rw [if_neg (by omega)]
            have e3 : [h].filter (p.lastF T n) = [h] := by rw [List.filter_cons, if_pos (by rw [hF]; exact decide_eq_true e2)]; rfl
            rw [e3]
            generalize hL : (p.hopsK bk q tree T k).filter (p.lastF T n) = L
            unfold minO
            rw [if_neg (show L ++ [h] ≠ [] by simp)]
            by_cases e4 : L = []
            · rw [if_pos e4, e4]; rfl
            · rw [if_neg e4, minBy_app e4]
              dsimp only
              have hmem : minBy (p.lastC T) L ∈ L := minBy_mem e4
              rw [← hL] at hmem
              have hmem2 := (List.mem_filter.1 hmem).1
              rw [hL] at hmem hmem2
              have hcm := hopsK_con hmem2
              have hfa := hopsK_mem (show k ≤ p.cons.length by omega) hmem2
              obtain ⟨i, f⟩ := HopP.facts hfa
              generalize hd2 : minBy (p.lastC T) L = d at *
              have hcd := G.con f.lt
              have hd0 := hcd.1.src0
              rw [← f.con] at hcd hd0
              have fs := f.src
              rw [← f.con] at fs
              have eD := (hA _ hd0 (by omega)).1 fs
              rw [eD]
              have hneg := lastC_neg (p := p) (T := T) (a := h) (b := d) (by omega)
              rw [hcon] at hneg
              by_cases e5 : p.lastC T h d < 0
              · rw [if_pos e5, if_pos (hneg.1 e5)]
              · rw [if_neg e5, if_neg (fun h6 => e5 (hneg.2 h6))]
          · rw [if_pos e2]
            have e3 : [h].filter (p.lastF T n) = [] := by rw [List.filter_cons, if_neg (by rw [hF]; simpa using e2)]; rfl
            rw [e3, List.append_nil]
      · rw [if_pos (.inl hd)]
        cases hm : p.hopI bk q tree T k with
        | none => rfl
        | some h =>
          dsimp only
          have hm2 := hm
          unfold Pln.hopI at hm2
          split at hm2
          · cases hm2
          · obtain ⟨b, _, hh, _⟩ := mhop_some hm2
            have hcon : h.con = (k : Int) := by rw [hh]; rfl
            rw [List.filter_append]
            have e3 : [h].filter (p.lastF T n) = [] := by
              rw [List.filter_cons, if_neg]
              · rfl
              · unfold Pln.lastF
                rw [hcon]
                simp [hd]
            rw [e3, List.append_nil]
/-- The reference finds the hop that the program prefers. -/
theorem rlast_lastH {p : Pln} {bk : List Bk} {q : Req} {tree T A : List Int} (G : GC p bk q) (ht : tree.length = 16) (hE : p.EarlP bk q tree T)
    (hA : ∀ n : Int, 0 ≤ n → n < p.quo.length → (0 ≤ gi T n → gi A n = gi T n) ∧ (gi T n < 0 → gi A n = -1)) {n : Int} (n0 : 0 ≤ n) (n1 : n < p.quo.length) (hn : gi tree n < 0) (hT : 0 ≤ gi T n) :
    p.rlast bk q A n p.cons.length = some (p.lastH bk q tree T n) := by
  have hn16 := G.n16
  rw [rlast_is G ht hE hA n0 n1 hn hT _ (Nat.le_refl _)]
  have ws := way_step G ht hE n0 (show n < 16 by omega) hn hT
  unfold minO
  rw [if_neg]
  · rfl
  · exact ws.ne

end Go.Proofs.YtbgdglcnminbaaaGreat
