/- Layer 28 (storage), plain: the levels are what is stored; the quota is passed where a hold begins. · Layer 28 (storage), the reference: Valid, Less, Stored, fits, Check; layer 29: CheckTables. · Layer 28 (storage), the reference: fits. · Layer 28 (storage), the reference: Check; layer 29: CheckTables. -/
import Derived.Test.YtbgdglcnminbaaaGreatStJ
import Derived.Test.YtbgdglcnminbaaaGreatMyAC
import Derived.Test.YtbgdglcnminbaaaGreatStK
import Derived.BigQuiet
namespace Go.Proofs.YtbgdglcnminbaaaGreat
set_option linter.unusedVariables false
set_option linter.unusedSimpArgs false
open Go.RowKit

/-- The sum of the changes at some times. -/
def sumE (P : Int → Bool) : List (Int × Int) → Int
  | [] => 0
  | e :: E => (if P e.1 then e.2 else 0) + sumE P E
theorem sumE_congr {P Q : Int → Bool} : ∀ {E : List (Int × Int)} (_ : ∀ e ∈ E, P e.1 = Q e.1), sumE P E = sumE Q E
  | [], _ => rfl
  | e :: E, h => by
    unfold sumE
    rw [h e (List.mem_cons_self ..), sumE_congr (fun x hx => h x (List.mem_cons_of_mem _ hx))]
theorem sumE_or {P Q R : Int → Bool} (h : ∀ x, R x = (P x || Q x)) (hd : ∀ x, ¬ (P x = true ∧ Q x = true)) : ∀ (E : List (Int × Int)), sumE R E = sumE P E + sumE Q E
  | [] => rfl
  | e :: E => by
    unfold sumE
    rw [sumE_or h hd E, h e.1]
    have := hd e.1
    cases hp : P e.1 <;> cases hq : Q e.1
    · simp
    · simp; omega
    · simp; omega
    · exact absurd ⟨hp, hq⟩ this
theorem sumE_app (P : Int → Bool) : ∀ (E F : List (Int × Int)), sumE P (E ++ F) = sumE P E + sumE P F
  | [], F => by simp [sumE]
  | e :: E, F => by
    have h1 : sumE P (e :: E ++ F) = (if P e.1 then e.2 else 0) + sumE P (E ++ F) := rfl
    have h2 : sumE P (e :: E) = (if P e.1 then e.2 else 0) + sumE P E := rfl
    rw [h1, h2, sumE_app P E F]; omega
theorem chg_sum (t : Int) : ∀ (E : List (Int × Int)), chg E t = sumE (fun x => decide (x = t)) E := by
  have key : ∀ (E : List (Int × Int)) (a : Int), E.foldl (fun a e => if e.1 = t then a + e.2 else a) a = a + sumE (fun x => decide (x = t)) E := by
    intro E
    induction E with
    | nil => intro a; simp [sumE]
    | cons e E ih =>
      intro a
      have h2 : sumE (fun x => decide (x = t)) (e :: E) = (if decide (e.1 = t) = true then e.2 else 0) + sumE (fun x => decide (x = t)) E := rfl
      rw [List.foldl_cons, ih, h2]
      by_cases h : e.1 = t
      · rw [if_pos h, if_pos (decide_eq_true h)]; omega
      · rw [if_neg h, if_neg (by rw [decide_eq_false h]; decide)]; omega
  intro E
  unfold chg
  rw [key]; omega

/-- What a node stores at a time. -/
def stoH (n t : Int) (h : Hd) : Int := if h.nod = n ∧ h.fr ≤ t ∧ t < h.til then h.siz else 0
def stored (l : List Hd) (n t : Int) : Int := l.foldl (fun a h => a + stoH n t h) 0
theorem stored_from (n t : Int) : ∀ (l : List Hd) (a : Int), l.foldl (fun a h => a + stoH n t h) a = a + stored l n t
  | [], a => by simp [stored]
  | h :: l, a => by
    unfold stored
    rw [List.foldl_cons, List.foldl_cons, stored_from n t l, stored_from n t l (0 + _)]
    omega
theorem stored_cons (n t : Int) (h : Hd) (l : List Hd) : stored (h :: l) n t = stoH n t h + stored l n t := by
  unfold stored
  rw [List.foldl_cons, stored_from]
  unfold stored
  omega
theorem stored_take {l : List Hd} {n t : Int} {j : Nat} (h : j < l.length) : stored (l.take (j + 1)) n t = stored (l.take j) n t + stoH n t l[j] := by
  unfold stored
  rw [List.take_succ_eq_append_getElem h, List.foldl_append]; rfl
theorem sumE_stored {n t : Int} : ∀ {l : List Hd} (_ : ∀ h ∈ l, h.fr < h.til), sumE (fun x => decide (x ≤ t)) (evs l n) = stored l n t
  | [], _ => rfl
  | h :: l, hv => by
    have e : evs (h :: l) n = evH n h ++ evs l n := by unfold evs; rw [List.flatMap_cons]
    have h1 := hv h (List.mem_cons_self ..)
    rw [e, sumE_app, sumE_stored (fun x hx => hv x (List.mem_cons_of_mem _ hx)), stored_cons]
    congr 1
    unfold evH stoH
    by_cases hn : h.nod = n
    · rw [if_pos hn]
      simp only [sumE, decide_eq_true_eq]
      by_cases a : h.fr ≤ t
      · by_cases b : h.til ≤ t
        · rw [if_pos a, if_pos b, if_neg (by omega)]; omega
        · rw [if_pos a, if_neg b, if_pos ⟨hn, a, by omega⟩]; omega
      · rw [if_neg a, if_neg (by omega), if_neg (by omega)]; omega
    · rw [if_neg hn, if_neg (by omega)]; rfl

theorem lv_fst {E : List (Int × Int)} : ∀ (ts : List Int) (s : Int × List Lev), ts.Nodup → (ts.foldl (lvStep E) s).1 = s.1 + sumE (fun x => decide (x ∈ ts)) E
  | [], s, _ => by
    have : sumE (fun x => decide (x ∈ ([] : List Int))) E = 0 := by
      have key : ∀ E : List (Int × Int), sumE (fun _ => false) E = 0 := by
        intro E
        induction E with
        | nil => rfl
        | cons e E ih => unfold sumE; rw [ih]; simp
      rw [← key E]
      exact sumE_congr (fun e _ => by simp)
    rw [this, List.foldl_nil]; omega
  | t :: ts, s, hn => by
    obtain ⟨h1, h2⟩ := List.nodup_cons.1 hn
    rw [List.foldl_cons, lv_fst ts _ h2, sumE_or (P := fun x => decide (x = t)) (Q := fun x => decide (x ∈ ts)) (R := fun x => decide (x ∈ t :: ts)) (fun x => by simp [List.mem_cons]) (fun x hx => by
      obtain ⟨a, b⟩ := hx
      obtain rfl := of_decide_eq_true a
      exact h1 (of_decide_eq_true b)), ← chg_sum t E]
    unfold lvStep
    split
    · rename_i h; rw [h]; omega
    · dsimp only; omega
theorem most_snoc (f : List Lev) (x : Lev) : mostL (f ++ [x]) = max (mostL f) x.val := by
  unfold mostL; rw [List.foldl_append]; rfl
theorem most_app : ∀ (g f : List Lev), mostL f ≤ mostL (f ++ g)
  | [], f => by rw [List.append_nil]; omega
  | x :: g, f => by
    rw [show f ++ x :: g = (f ++ [x]) ++ g by simp]
    have := most_app g (f ++ [x])
    rw [most_snoc] at this
    omega
theorem lv_grow {E : List (Int × Int)} : ∀ (ts : List Int) (s : Int × List Lev), mostL s.2 ≤ mostL (ts.foldl (lvStep E) s).2
  | [], s => Int.le_refl _
  | t :: ts, s => by
    rw [List.foldl_cons]
    have := lv_grow (E := E) ts (lvStep E s t)
    have h2 : mostL s.2 ≤ mostL (lvStep E s t).2 := by
      unfold lvStep
      split
      · exact Int.le_refl _
      · dsimp only; rw [most_snoc]; omega
    omega
theorem lv_most {E : List (Int × Int)} : ∀ (ts : List Int) (s : Int × List Lev), s.1 ≤ mostL s.2 → (ts.foldl (lvStep E) s).1 ≤ mostL (ts.foldl (lvStep E) s).2
  | [], s, h => h
  | t :: ts, s, h => by
    rw [List.foldl_cons]
    refine lv_most ts _ ?_
    unfold lvStep
    split
    · exact h
    · dsimp only; rw [most_snoc]; dsimp only; omega
theorem lv_below {E : List (Int × Int)} (ts : List Int) (hn : ts.Nodup) (j : Nat) : sumE (fun x => decide (x ∈ ts.take j)) E ≤ mostL (ts.foldl (lvStep E) (0, [])).2 := by
  have h1 := lv_fst (E := E) (ts.take j) (0, []) (hn.sublist (List.take_sublist _ _))
  have h2 := lv_most (E := E) (ts.take j) (0, []) (by unfold mostL; simp)
  have h3 := lv_grow (E := E) (ts.drop j) ((ts.take j).foldl (lvStep E) (0, []))
  rw [← List.foldl_append, List.take_append_drop] at h3
  dsimp only at h1
  omega
theorem lv_above {E : List (Int × Int)} {q : Int} (hq : 0 ≤ q) : ∀ (ts : List Int) (s : Int × List Lev), ts.Nodup → mostL s.2 ≤ q → q < mostL (ts.foldl (lvStep E) s).2 → ∃ j, j < ts.length ∧ q < s.1 + sumE (fun x => decide (x ∈ ts.take (j + 1))) E
  | [], s, _, h0, h1 => by rw [List.foldl_nil] at h1; omega
  | t :: ts, s, hn, h0, h1 => by
    obtain ⟨g1, g2⟩ := List.nodup_cons.1 hn
    rw [List.foldl_cons] at h1
    have hf := lv_fst (E := E) [t] s (by simp)
    rw [List.foldl_cons, List.foldl_nil] at hf
    by_cases h2 : mostL (lvStep E s t).2 ≤ q
    · obtain ⟨j, hj, hlt⟩ := lv_above hq ts _ g2 h2 h1
      refine ⟨j + 1, by simp; omega, ?_⟩
      rw [List.take_succ_cons, sumE_or (P := fun x => decide (x ∈ [t])) (Q := fun x => decide (x ∈ ts.take (j + 1))) (R := fun x => decide (x ∈ t :: ts.take (j + 1))) (fun x => by simp [List.mem_cons]) (fun x hx => by
        obtain ⟨a, b⟩ := hx
        have a := of_decide_eq_true a
        rw [List.mem_singleton] at a
        subst a
        exact g1 (List.mem_of_mem_take (of_decide_eq_true b)))]
      omega
    · refine ⟨0, by simp, ?_⟩
      rw [List.take_succ_cons, List.take_zero, ← hf]
      unfold lvStep at h2 ⊢
      split at h2
      · omega
      · rename_i h3
        rw [if_neg h3]
        dsimp only at h2 ⊢
        rw [most_snoc] at h2
        dsimp only at h2
        omega

theorem tms_nodup' : ∀ (E : List (Int × Int)) (ts : List Int), ts.Nodup → (E.foldl (fun ts e => if e.1 ∈ ts then ts else ts ++ [e.1]) ts).Nodup
  | [], _, h => h
  | e :: E, ts, h => by
    rw [List.foldl_cons]
    refine tms_nodup' E _ ?_
    split
    · exact h
    · rename_i h1
      rw [List.nodup_append]
      exact ⟨h, by simp, fun a ha b hb => by rw [List.mem_singleton] at hb; subst hb; intro e2; exact h1 (e2 ▸ ha)⟩
theorem srt_perm (ts : List Int) : (srt ts).Perm ts := List.mergeSort_perm _ _
theorem srt_nodup (E : List (Int × Int)) : (srt (tms E)).Nodup := (srt_perm _).nodup_iff.2 (tms_nodup' E [] List.nodup_nil)
theorem srt_lt (E : List (Int × Int)) : (srt (tms E)).Pairwise (· < ·) := by
  have h1 : (srt (tms E)).Pairwise (fun x y => decide (x ≤ y) = true) := List.pairwise_mergeSort (fun a b c => by simp; omega) (fun a b => by simp; omega) _
  have h2 : (srt (tms E)).Pairwise (· ≠ ·) := srt_nodup E
  refine (h1.and h2).imp ?_
  rintro a b ⟨x, y⟩
  have := of_decide_eq_true x
  omega
theorem mem_srt {E : List (Int × Int)} {e : Int × Int} (h : e ∈ E) : e.1 ∈ srt (tms E) := (srt_perm _).mem_iff.2 (mem_tms.2 ⟨e, h, rfl⟩)
theorem pw_take {S : List Int} (hp : S.Pairwise (· < ·)) {x : Int} (hx : x ∈ S) {j : Nat} (hj : j < S.length) : x ∈ S.take (j + 1) ↔ x ≤ S[j] := by
  rw [List.pairwise_iff_getElem] at hp
  obtain ⟨i, hi, rfl⟩ := List.mem_iff_getElem.1 hx
  constructor
  · intro h
    obtain ⟨k, hk, hke⟩ := List.mem_iff_getElem.1 h
    rw [List.length_take] at hk
    rw [List.getElem_take] at hke
    rw [← hke]
    by_cases e : k = j
    · subst e; exact Int.le_refl _
    · have := hp k j (by omega) hj (by omega); omega
  · intro h
    have hij : i ≤ j := by
      apply Classical.byContradiction
      intro hn
      have := hp j i hj hi (by omega)
      omega
    rw [List.mem_iff_getElem]
    exact ⟨i, by rw [List.length_take]; omega, by rw [List.getElem_take]⟩
theorem sum_at {l : List Hd} {n : Int} (hv : ∀ h ∈ l, h.fr < h.til) {j : Nat} (hj : j < (srt (tms (evs l n))).length) : sumE (fun x => decide (x ∈ (srt (tms (evs l n))).take (j + 1))) (evs l n) = stored l n (srt (tms (evs l n)))[j] := by
  rw [← sumE_stored hv]
  refine sumE_congr (fun e he => ?_)
  have := pw_take (srt_lt (evs l n)) (mem_srt he) hj
  by_cases h : e.1 ≤ (srt (tms (evs l n)))[j]
  · rw [decide_eq_true h, decide_eq_true (this.2 h)]
  · rw [decide_eq_false h, decide_eq_false (fun h2 => h (this.1 h2))]

theorem stored_pos {n t : Int} : ∀ {l : List Hd} (_ : ∀ h ∈ l, 1 ≤ h.siz), 0 ≤ stored l n t
  | [], _ => by simp [stored]
  | h :: l, hv => by
    rw [stored_cons]
    have := stored_pos (n := n) (t := t) (fun x hx => hv x (List.mem_cons_of_mem _ hx))
    have := hv h (List.mem_cons_self ..)
    unfold stoH
    split <;> omega
theorem stored_mono {n t u : Int} : ∀ {l : List Hd} (_ : ∀ h ∈ l, stoH n t h ≤ stoH n u h), stored l n t ≤ stored l n u
  | [], _ => by simp [stored]
  | h :: l, hv => by
    rw [stored_cons, stored_cons]
    have := stored_mono (fun x hx => hv x (List.mem_cons_of_mem _ hx))
    have := hv h (List.mem_cons_self ..)
    omega
/-- Where something is stored, at least as much is stored when one of the holds begins. -/
theorem stored_peak {n t : Int} {l : List Hd} (hv : ∀ h ∈ l, 1 ≤ h.siz) (h : 0 < stored l n t) : ∃ (i : Nat) (hi : i < l.length), l[i].nod = n ∧ stored l n t ≤ stored l n l[i].fr := by
  -- the last hold of the node that begins until t
  have ex : ∀ (k : Nat), k ≤ l.length → (∀ i (hi : i < l.length), i < k → ¬ (l[i].nod = n ∧ l[i].fr ≤ t)) ∨ ∃ (i : Nat) (hi : i < l.length), (l[i].nod = n ∧ l[i].fr ≤ t) ∧ ∀ m (hm : m < l.length), m < k → l[m].nod = n → l[m].fr ≤ t → l[m].fr ≤ l[i].fr := by
    intro k
    induction k with
    | zero => intro _; exact .inl (fun i hi h => by omega)
    | succ k ih =>
      intro hk
      by_cases c : l[k].nod = n ∧ l[k].fr ≤ t
      · right
        rcases ih (by omega) with h0 | ⟨i, hi, hc, hm⟩
        · refine ⟨k, by omega, c, fun m hm hmk h1 h2 => ?_⟩
          by_cases e : m = k
          · subst e; exact Int.le_refl _
          · exact absurd ⟨h1, h2⟩ (h0 m hm (by omega))
        · by_cases e : l[i].fr ≤ l[k].fr
          · refine ⟨k, by omega, c, fun m hm2 hmk h1 h2 => ?_⟩
            by_cases e2 : m = k
            · subst e2; exact Int.le_refl _
            · exact Int.le_trans (hm m hm2 (by omega) h1 h2) e
          · refine ⟨i, hi, hc, fun m hm2 hmk h1 h2 => ?_⟩
            by_cases e2 : m = k
            · subst e2; omega
            · exact hm m hm2 (by omega) h1 h2
      · rcases ih (by omega) with h0 | ⟨i, hi, hc, hm⟩
        · left
          intro i hi hik
          by_cases e : i = k
          · subst e; exact c
          · exact h0 i hi (by omega)
        · right
          refine ⟨i, hi, hc, fun m hm2 hmk h1 h2 => ?_⟩
          by_cases e2 : m = k
          · subst e2; exact absurd ⟨h1, h2⟩ c
          · exact hm m hm2 (by omega) h1 h2
  rcases ex l.length (Nat.le_refl _) with h0 | ⟨i, hi, hc, hm⟩
  · exfalso
    have : stored l n t ≤ 0 := by
      have key : ∀ (l : List Hd), (∀ x ∈ l, stoH n t x = 0) → stored l n t = 0 := by
        intro l
        induction l with
        | nil => intro _; rfl
        | cons x l ih => intro hx; rw [stored_cons, hx x (List.mem_cons_self ..), ih (fun y hy => hx y (List.mem_cons_of_mem _ hy))]; rfl
      rw [key l (fun x hx => by
        obtain ⟨i, hi, rfl⟩ := List.mem_iff_getElem.1 hx
        have := h0 i hi hi
        unfold stoH
        rw [if_neg (by omega)])]
      omega
    omega
  · refine ⟨i, hi, hc.1, stored_mono (fun x hx => ?_)⟩
    obtain ⟨m, hm2, rfl⟩ := List.mem_iff_getElem.1 hx
    have := hm m hm2 hm2
    have := hv _ (List.getElem_mem hm2)
    unfold stoH
    by_cases c : l[m].nod = n ∧ l[m].fr ≤ t ∧ t < l[m].til
    · rw [if_pos c, if_pos (by omega)]; omega
    · rw [if_neg c]; split <;> omega

theorem most_iff {l : List Hd} {n q : Int} (hv : ∀ h ∈ l, h.fr < h.til) (hs : ∀ h ∈ l, 1 ≤ h.siz) (hq : 0 ≤ q) : q < mostL (levL l n) ↔ ∃ (i : Nat) (hi : i < l.length), l[i].nod = n ∧ q < stored l n l[i].fr := by
  constructor
  · intro h
    obtain ⟨j, hj, hlt⟩ := lv_above hq _ (0, []) (srt_nodup (evs l n)) (by show mostL [] ≤ q; exact hq) h
    rw [sum_at hv hj] at hlt
    dsimp only at hlt
    obtain ⟨i, hi, hn, hle⟩ := stored_peak (n := n) (t := (srt (tms (evs l n)))[j]) hs (by omega)
    exact ⟨i, hi, hn, by omega⟩
  · rintro ⟨i, hi, hn, hlt⟩
    have hmem : l[i].fr ∈ srt (tms (evs l n)) := mem_srt (e := (l[i].fr, l[i].siz)) (by
      unfold evs
      exact List.mem_flatMap.2 ⟨l[i], List.getElem_mem hi, by unfold evH; rw [if_pos hn]; exact List.mem_cons_self ..⟩)
    obtain ⟨j, hj, hje⟩ := List.mem_iff_getElem.1 hmem
    have h1 := lv_below (E := evs l n) _ (srt_nodup (evs l n)) (j + 1)
    rw [sum_at hv hj, hje] at h1
    exact Int.lt_of_lt_of_le hlt h1

/-- The quota of a node is passed when a hold begins. -/
theorem stF_iff {p : Pln} {l : List Hd} (hp : p.chk = 0) (h : ∀ x ∈ l, p.hdOk x = true) : p.stF l p.quo.length ↔ ∃ (i : Nat) (hi : i < l.length), gi p.quo l[i].nod < stored l l[i].nod l[i].fr := by
  have hq : ∀ n, 0 ≤ p.quo.getD n 0 := by
    unfold Pln.chk at hp
    split at hp
    · cases hp
    · split at hp
      · cases hp
      · rename_i h1
        intro n
        by_cases hn : n < p.quo.length
        · have h2 : ¬ quoB p.quo[n] = true := fun hh => h1 (List.any_eq_true.2 ⟨_, List.getElem_mem hn, hh⟩)
          rw [List.getD_eq_getElem?_getD, List.getElem?_eq_getElem hn, Option.getD_some]
          unfold quoB at h2
          simp at h2
          omega
        · rw [List.getD_eq_getElem?_getD, List.getElem?_eq_none (by omega)]; exact Int.le_refl _
  have hv : ∀ x ∈ l, x.fr < x.til := fun x hx => by have := of_decide_eq_true (h x hx); omega
  have hs : ∀ x ∈ l, 1 ≤ x.siz := fun x hx => by have := of_decide_eq_true (h x hx); omega
  unfold Pln.stF
  constructor
  · rintro ⟨n, hn, hlt⟩
    obtain ⟨i, hi, hni, hlt2⟩ := (most_iff hv hs (hq n)).1 hlt
    refine ⟨i, hi, ?_⟩
    rw [hni]
    unfold gi
    rw [Int.toNat_natCast]
    exact hlt2
  · rintro ⟨i, hi, hlt⟩
    have hb := of_decide_eq_true (h _ (List.getElem_mem hi))
    refine ⟨l[i].nod.toNat, by omega, (most_iff hv hs (hq _)).2 ⟨i, hi, by omega, ?_⟩⟩
    rw [show ((l[i].nod.toNat : Nat) : Int) = l[i].nod by omega]
    exact hlt

end Go.Proofs.YtbgdglcnminbaaaGreat

namespace Go.Proofs.YtbgdglcnminbaaaGreat
set_option linter.unusedVariables false
set_option linter.unusedSimpArgs false
open Go.RowKit Go.Shelf
attribute [local go_sem] Oper.semAt_some

set_option maxRecDepth 100000 in
set_option maxHeartbeats 8000000 in
theorem rhvalid_any (Aq : Option Addr) (cq : Nat) (Ac : Option Addr) (cc : Nat) (p : Pln) (b : Hd) (w : World) (hqm : p.quo.length ≤ 1000000) :
    Calls Tryz.prog 82 #[p.val Aq cq Ac cc, b.val] w fun e w' => e = .returned (.bool (p.hdOk b)) ∧ Ext w w' := by
  obtain ⟨W, hW, hB, hk, hk2, hlt, hlt2⟩ := box2 w #[.slice Aq p.quo.length cq, .slice Ac p.cons.length cc] #[.int .i64 b.nod, .int .i64 b.fr, .int .i64 b.til, .int .i64 b.siz, .int .i64 b.tic] 25 116
  have hc := hk.cell
  have hc2 := hk2.cell
  unfold Pln.val Hd.val
  by_cases hg : 0 ≤ b.nod ∧ b.nod < p.quo.length ∧ 0 ≤ b.fr ∧ b.fr < b.til ∧ b.til ≤ 1099511627776 ∧ 1 ≤ b.siz ∧ b.siz ≤ 65536 ∧ 0 ≤ b.tic ∧ b.tic ≤ 1152921504606846976
  · have HV := Lib.hid (hdOk_yes hg)
    obtain ⟨g1, g2, g3, g4, g5, g6, g7, g8, g9⟩ := hg
    go_enter Tryz.func82, Tryz.ntmps82
    go_wp2
    go_ret
    exact ⟨by rw [HV.out]; first | rfl | exact ret_bool (decide_eq_false (by omega)) | exact ret_bool (decide_eq_true (by omega)), hB⟩
  · have HV := Lib.hid (hdOk_no (p := p) hg)
    have hw2 : b.nod < 0 ∨ (0 ≤ b.nod ∧ (p.quo.length : Int) ≤ b.nod) ∨ (0 ≤ b.nod ∧ b.nod < p.quo.length ∧ b.fr < 0) ∨ (0 ≤ b.nod ∧ b.nod < p.quo.length ∧ 0 ≤ b.fr ∧ b.til ≤ b.fr) ∨ (0 ≤ b.nod ∧ b.nod < p.quo.length ∧ 0 ≤ b.fr ∧ b.fr < b.til ∧ 1099511627776 < b.til)
      ∨ (0 ≤ b.nod ∧ b.nod < p.quo.length ∧ 0 ≤ b.fr ∧ b.fr < b.til ∧ b.til ≤ 1099511627776 ∧ b.siz < 1) ∨ (0 ≤ b.nod ∧ b.nod < p.quo.length ∧ 0 ≤ b.fr ∧ b.fr < b.til ∧ b.til ≤ 1099511627776 ∧ 1 ≤ b.siz ∧ 65536 < b.siz)
      ∨ (0 ≤ b.nod ∧ b.nod < p.quo.length ∧ 0 ≤ b.fr ∧ b.fr < b.til ∧ b.til ≤ 1099511627776 ∧ 1 ≤ b.siz ∧ b.siz ≤ 65536 ∧ b.tic < 0) ∨ (0 ≤ b.nod ∧ b.nod < p.quo.length ∧ 0 ≤ b.fr ∧ b.fr < b.til ∧ b.til ≤ 1099511627776 ∧ 1 ≤ b.siz ∧ b.siz ≤ 65536 ∧ 0 ≤ b.tic ∧ 1152921504606846976 < b.tic) := by omega
    clear hg
    rcases hw2 with g1 | ⟨g1, g2⟩ | ⟨g1, g2, g3⟩ | ⟨g1, g2, g3, g4⟩ | ⟨g1, g2, g3, g4, g5⟩ | ⟨g1, g2, g3, g4, g5, g6⟩ | ⟨g1, g2, g3, g4, g5, g6, g7⟩ | ⟨g1, g2, g3, g4, g5, g6, g7, g8⟩ | ⟨g1, g2, g3, g4, g5, g6, g7, g8, g9⟩
    all_goals
      go_enter Tryz.func82, Tryz.ntmps82
      go_wp2
      go_ret
      exact ⟨by rw [HV.out]; first | rfl | exact ret_bool (decide_eq_false (by omega)) | exact ret_bool (decide_eq_true (by omega)), hB⟩

theorem hdCmp_1 {a b : Hd} (h : a.nod ≠ b.nod) : (0 < hdCmp a b) ↔ b.nod < a.nod := by
  unfold hdCmp orL cmpI; split <;> (try split) <;> (try split) <;> omega
theorem hdCmp_eq {a b : Hd} (h : a.nod = b.nod) : hdCmp a b = orL [cmpI a.fr b.fr, cmpI a.til b.til, cmpI a.tic b.tic, cmpI a.siz b.siz] := by
  unfold hdCmp
  rw [show cmpI a.nod b.nod = 0 from cmpI_zero.2 h]
  rfl
theorem orL_pos {x y : Int} {l : List Int} (h : x ≠ y) : 0 < orL (cmpI x y :: l) ↔ y < x := by
  unfold orL cmpI; split <;> (try split) <;> (try split) <;> omega
theorem orL_posB {x y : Int} {l : List Int} (h : x ≠ y) : decide (0 < orL (cmpI x y :: l)) = decide (y < x) := by
  by_cases e : y < x
  · rw [decide_eq_true e, decide_eq_true ((orL_pos h).2 e)]
  · rw [decide_eq_false e, decide_eq_false (fun h2 => e ((orL_pos h).1 h2))]
theorem orL_oneB {x y : Int} : decide (0 < orL [cmpI x y]) = decide (y < x) := by
  by_cases e : y < x
  · rw [decide_eq_true e, decide_eq_true (show 0 < orL [cmpI x y] by unfold orL orL cmpI; split <;> (try split) <;> (try split) <;> omega)]
  · rw [decide_eq_false e, decide_eq_false (show ¬ 0 < orL [cmpI x y] by unfold orL orL cmpI; split <;> (try split) <;> (try split) <;> omega)]
theorem orL_skip {x y : Int} {l : List Int} (h : x = y) : orL (cmpI x y :: l) = orL l := by
  rw [show cmpI x y = 0 from cmpI_zero.2 h]; rfl

set_option maxRecDepth 100000 in
set_option maxHeartbeats 4000000 in
theorem rless_any28 (a b : Hd) (w : World) :
    Calls Tryz.prog 83 #[a.val, b.val] w fun e w' => e = .returned (.bool (decide (0 < hdCmp b a))) ∧ Ext w w' := by
  obtain ⟨W, hW, hB, hk, hk2, hlt, hlt2⟩ := box2 w #[.int .i64 a.nod, .int .i64 a.fr, .int .i64 a.til, .int .i64 a.siz, .int .i64 a.tic] #[.int .i64 b.nod, .int .i64 b.fr, .int .i64 b.til, .int .i64 b.siz, .int .i64 b.tic] 116 116
  have hc := hk.cell
  have hc2 := hk2.cell
  unfold Hd.val
  have e0 : hdCmp b a = orL [cmpI b.nod a.nod, cmpI b.fr a.fr, cmpI b.til a.til, cmpI b.tic a.tic, cmpI b.siz a.siz] := rfl
  rw [e0]
  clear e0
  by_cases n1 : a.nod = b.nod
  case' neg =>
    have d1 : (a.nod != b.nod) = true := by simpa using n1
    have HV := Lib.hid ((orL_posB (l := [cmpI b.fr a.fr, cmpI b.til a.til, cmpI b.tic a.tic, cmpI b.siz a.siz]) (show b.nod ≠ a.nod from fun e => n1 e.symm)))
    clear n1
    go_enter Tryz.func83, Tryz.ntmps83
    go_wp2
    go_ret
    exact ⟨by rw [HV.out]; rfl, hB⟩
  rw [orL_skip n1.symm]
  have d1 : (a.nod != b.nod) = false := by simpa using n1
  clear n1
  by_cases n2 : a.fr = b.fr
  case' neg =>
    have d2 : (a.fr != b.fr) = true := by simpa using n2
    have HV := Lib.hid ((orL_posB (l := [cmpI b.til a.til, cmpI b.tic a.tic, cmpI b.siz a.siz]) (show b.fr ≠ a.fr from fun e => n2 e.symm)))
    clear n2
    go_enter Tryz.func83, Tryz.ntmps83
    go_wp2
    go_ret
    exact ⟨by rw [HV.out]; rfl, hB⟩
  rw [orL_skip n2.symm]
  have d2 : (a.fr != b.fr) = false := by simpa using n2
  clear n2
  by_cases n3 : a.til = b.til
  case' neg =>
    have d3 : (a.til != b.til) = true := by simpa using n3
    have HV := Lib.hid ((orL_posB (l := [cmpI b.tic a.tic, cmpI b.siz a.siz]) (show b.til ≠ a.til from fun e => n3 e.symm)))
    clear n3
    go_enter Tryz.func83, Tryz.ntmps83
    go_wp2
    go_ret
    exact ⟨by rw [HV.out]; rfl, hB⟩
  rw [orL_skip n3.symm]
  have d3 : (a.til != b.til) = false := by simpa using n3
  clear n3
  by_cases n4 : a.tic = b.tic
  case' neg =>
    have d4 : (a.tic != b.tic) = true := by simpa using n4
    have HV := Lib.hid ((orL_posB (l := [cmpI b.siz a.siz]) (show b.tic ≠ a.tic from fun e => n4 e.symm)))
    clear n4
    go_enter Tryz.func83, Tryz.ntmps83
    go_wp2
    go_ret
    exact ⟨by rw [HV.out]; rfl, hB⟩
  rw [orL_skip n4.symm]
  have d4 : (a.tic != b.tic) = false := by simpa using n4
  clear n4
  have HV := Lib.hid ((orL_oneB (x := b.siz) (y := a.siz)))
  go_enter Tryz.func83, Tryz.ntmps83
  go_wp2
  go_ret
  exact ⟨by rw [HV.out]; rfl, hB⟩

theorem stored_bd {n t : Int} : ∀ {l : List Hd} (_ : ∀ h ∈ l, 1 ≤ h.siz ∧ h.siz ≤ 65536), 0 ≤ stored l n t ∧ stored l n t ≤ 65536 * (l.length : Int)
  | [], _ => by simp [stored]
  | h :: l, hv => by
    rw [stored_cons, List.length_cons]
    have := stored_bd (n := n) (t := t) (fun x hx => hv x (List.mem_cons_of_mem _ hx))
    have := hv h (List.mem_cons_self ..)
    unfold stoH
    split <;> omega
set_option maxRecDepth 100000 in
set_option maxHeartbeats 4000000 in
theorem rstored_any (A : Option Addr) (cA : Nat) (l : List Hd) (n t : Int) (w : World) (hl : Rd EHd w A l) (hlm : l.length ≤ 1000000) (hv : ∀ x ∈ l, 1 ≤ x.siz ∧ x.siz ≤ 65536) :
    Calls Tryz.prog 98 #[.slice A l.length cA, .int .i64 n, .int .i64 t] w fun e w' => e = .returned (.int .i64 (stored l n t)) ∧ Ext w w' := by
  go_enter Tryz.func98, Tryz.ntmps98
  go_wp2
  go_loopg [7, 8] l.length (fun m a k wr => ∃ j : Nat, j + m = l.length ∧ k = .int .i64 j ∧ a = .int .i64 (stored (l.take j) n t) ∧ w = wr)
  case atStart => exact ⟨0, by omega, rfl, rfl, rfl⟩
  case round =>
    obtain ⟨j, hjq, rfl, rfl, rfl⟩ := hrel
    have Hjq := Lib.hid hjq
    have hjN : j ≤ l.length := by omega
    clear hjq
    by_cases hlt : j < l.length
    · obtain ⟨b, o, rfl, hb, c0, c1, c2, c3, c4⟩ := hl.hd hlt
      have hsn := stored_take (n := n) (t := t) hlt
      have hbd := stored_bd (n := n) (t := t) (l := l.take j) (fun x hx => hv x (List.mem_of_mem_take hx))
      have hxv := hv _ (List.getElem_mem hlt)
      have htk : (l.take j).length ≤ j := List.length_take_le _ _
      generalize l[j] = x at *
      obtain ⟨s, hs⟩ : ∃ s, stored (l.take j) n t = s := ⟨_, rfl⟩
      rw [hs] at hsn hbd ⊢
      have Hsn := Lib.hid hsn
      clear hsn hs
      have hw0 : IntKind.i64.wrap (s + x.siz) = s + x.siz := IntWalk.i64_in _ (by omega)
      by_cases hg : x.nod = n ∧ x.fr ≤ t ∧ t < x.til
      · obtain ⟨g1, g2, g3⟩ := hg
        have d1 : (x.nod == n) = true := by simpa using g1
        have d2 : decide (x.fr ≤ t) = true := decide_eq_true g2
        have d3 : decide (t < x.til) = true := decide_eq_true g3
        have HS := Lib.hid (show stored (l.take (j + 1)) n t = s + x.siz by rw [Hsn.out]; unfold stoH; rw [if_pos ⟨g1, g2, g3⟩])
        clear g1 g2 g3
        go_wp2
        go_roundg (gk - 1)
        case measure => have := Hjq.out; omega
        case rel => exact ⟨j + 1, by have := Hjq.out; omega, by go_num, by rw [HS.out], rfl⟩
      · have HS := Lib.hid (show stored (l.take (j + 1)) n t = s by rw [Hsn.out]; unfold stoH; rw [if_neg hg]; omega)
        have hw2 : x.nod ≠ n ∨ (x.nod = n ∧ t < x.fr) ∨ (x.nod = n ∧ x.fr ≤ t ∧ x.til ≤ t) := by omega
        clear hg
        rcases hw2 with g1 | ⟨g1, g2⟩ | ⟨g1, g2, g3⟩
        · have d1 : (x.nod == n) = false := by simpa using g1
          clear g1
          go_wp2
          go_roundg (gk - 1)
          case measure => have := Hjq.out; omega
          case rel => exact ⟨j + 1, by have := Hjq.out; omega, by go_num, by rw [HS.out], rfl⟩
        · have d1 : (x.nod == n) = true := by simpa using g1
          have d2 : decide (x.fr ≤ t) = false := decide_eq_false (by omega)
          clear g1 g2
          go_wp2
          go_roundg (gk - 1)
          case measure => have := Hjq.out; omega
          case rel => exact ⟨j + 1, by have := Hjq.out; omega, by go_num, by rw [HS.out], rfl⟩
        · have d1 : (x.nod == n) = true := by simpa using g1
          have d2 : decide (x.fr ≤ t) = true := decide_eq_true g2
          have d3 : decide (t < x.til) = false := decide_eq_false (by omega)
          clear g1 g2 g3
          go_wp2
          go_roundg (gk - 1)
          case measure => have := Hjq.out; omega
          case rel => exact ⟨j + 1, by have := Hjq.out; omega, by go_num, by rw [HS.out], rfl⟩
    · obtain rfl : j = l.length := by omega
      rw [List.take_length]
      go_wp2
      go_ret
      exact ⟨rfl, Ext.refl _⟩

end Go.Proofs.YtbgdglcnminbaaaGreat

namespace Go.Proofs.YtbgdglcnminbaaaGreat
set_option linter.unusedVariables false
set_option linter.unusedSimpArgs false
open Go.RowKit Go.Shelf
attribute [local go_sem] Oper.semAt_some

/-- Whether no hold begins where its node stores too much. -/
def Pln.fitB (p : Pln) (l : List Hd) (j : Nat) : Bool := (l.take j).all (fun h => decide (stored l h.nod h.fr ≤ gi p.quo h.nod))
theorem fitB_step {p : Pln} {l : List Hd} {j : Nat} (hj : j < l.length) (h : p.fitB l j = true) (h2 : stored l l[j].nod l[j].fr ≤ gi p.quo l[j].nod) : p.fitB l (j + 1) = true := by
  unfold Pln.fitB at h ⊢
  rw [List.take_succ_eq_append_getElem hj, List.all_append, h]
  simp [h2]
theorem fitB_no {p : Pln} {l : List Hd} {j : Nat} (hj : j < l.length) (h2 : ¬ stored l l[j].nod l[j].fr ≤ gi p.quo l[j].nod) : p.fitB l l.length = false := by
  unfold Pln.fitB
  rw [List.take_length, List.all_eq_false]
  exact ⟨_, List.getElem_mem hj, by simpa using h2⟩
theorem fitB_iff {p : Pln} {l : List Hd} (hp : p.chk = 0) (h : ∀ x ∈ l, p.hdOk x = true) : p.fitB l l.length = true ↔ ¬ p.stF l p.quo.length := by
  rw [stF_iff hp h]
  unfold Pln.fitB
  rw [List.take_length, List.all_eq_true]
  constructor
  · rintro h1 ⟨i, hi, hlt⟩
    have := of_decide_eq_true (h1 _ (List.getElem_mem hi))
    omega
  · intro h1 x hx
    obtain ⟨i, hi, rfl⟩ := List.mem_iff_getElem.1 hx
    apply decide_eq_true
    apply Classical.byContradiction
    intro hn
    exact h1 ⟨i, hi, by omega⟩

set_option maxRecDepth 100000 in
set_option maxHeartbeats 4000000 in
theorem rfits28_any (Aq : Option Addr) (cq : Nat) (Ac : Option Addr) (cc : Nat) (p : Pln) (Al : Option Addr) (cl : Nat) (l : List Hd) (w : World) (h : PlnRd w Aq cq Ac cc p) (hl : Rd EHd w Al l) (hlm : l.length ≤ 1000000) (hv : ∀ x ∈ l, p.hdOk x = true) :
    Calls Tryz.prog 84 #[p.val Aq cq Ac cc, .slice Al l.length cl] w fun e w' => e = .returned (.bool (p.fitB l l.length)) ∧ Ext w w' := by
  obtain ⟨W, hW, hB, hk, hlt⟩ := box1 w #[.slice Aq p.quo.length cq, .slice Ac p.cons.length cc] 25
  have hqm := h.qm
  have hc := hk.cell
  have hs := fun x (hx : x ∈ l) => show 1 ≤ x.siz ∧ x.siz ≤ 65536 by have := of_decide_eq_true (hv x hx); omega
  have hst := fun n t w h => rstored_any Al cl l n t w h hlm hs
  have hl1 := hl.ext hB
  have hq1 := h.q.ext hB
  unfold Pln.val
  go_enter Tryz.func84, Tryz.ntmps84
  go_wp2_with fail
  clear hW
  go_loopg [5] l.length (fun m k wr => ∃ j : Nat, j + m = l.length ∧ k = .int .i64 j ∧ Hid (p.fitB l j = true) ∧ Ext W wr)
  case atStart => exact ⟨0, by omega, rfl, Lib.hid rfl, Ext.refl _⟩
  case round =>
    obtain ⟨j, hjq, rfl, hme, hx⟩ := hrel
    have Hjq := Lib.hid hjq
    have hjN : j ≤ l.length := by omega
    clear hjq
    have u1 := (hk.ext hx).cell
    have u2 := (hk.ext hx).lt
    by_cases hlt2 : j < l.length
    · obtain ⟨bl, ol, rfl, hbl, g0, g1, g2, g3, g4⟩ := (hl1.ext hx).hd hlt2
      have hok := of_decide_eq_true (hv _ (List.getElem_mem hlt2))
      have HY := Lib.hid (fun h2 => fitB_step (p := p) hlt2 hme.out h2)
      have HNO := Lib.hid (fun h2 => fitB_no (p := p) hlt2 h2)
      generalize l[j] = x at *
      have hnl : x.nod.toNat < p.quo.length := by omega
      obtain ⟨bq, oq, rfl, hbq, hqc⟩ := (hq1.ext hx).int hnl
      have hgi : gi p.quo x.nod = p.quo[x.nod.toNat] := by unfold gi; rw [List.getD_eq_getElem?_getD, List.getElem?_eq_getElem hnl, Option.getD_some]
      rw [hgi] at HY HNO
      clear hgi
      have eN : ((x.nod.toNat : Nat) : Int) = x.nod := by omega
      have hn0 : 0 ≤ x.nod := by omega
      have hn1 : x.nod < (p.quo.length : Int) := by omega
      have hsA := fun d os => hst x.nod x.fr (Sort.grow (redrawn wr d) os) (hl1.ext (hx.trans (below_regrown wr d os)))
      obtain ⟨sv, hsv⟩ : ∃ sv, stored l x.nod x.fr = sv := ⟨_, rfl⟩
      rw [hsv] at HY HNO hsA
      generalize p.quo[x.nod.toNat] = qv at *
      have hN := Near.refl wr
      have hC := hN.2
      clear hok
      go_wp2_with fail
      have hq := quiet_near hN
      refine wp_region_quiet_below (by kernel_rfl) (by kernel_rfl) ?_
      repeat (first | go_big_quiet_skip | (go_big_quiet_want; go_big_quiet_op; first | go_big_quiet_on | (apply Exists.intro; refine ⟨fun _ => ?_, ?_⟩; (focus (first | (go_at_call 98; with_reducible exact Calls.regrown_of (hsA _ _)))); go_big_quiet_on)))
      refine wpQuiet_nil ?_
      intro w1 hw1
      clear hq
      replace hw1 := quiet_ext hw1
      replace hN := hN.step hw1
      have hC := hN.2
      clear hsA
      by_cases e1 : qv < sv
      · rw [decide_eq_true e1]
        have HV := Lib.hid (HNO.out (by omega))
        clear e1
        go_wp2
        go_ret
        exact ⟨by rw [HV.out]; rfl, (hB.trans hx).trans hN.1⟩
      · rw [decide_eq_false e1]
        have HS := Lib.hid (HY.out (by omega))
        clear e1
        go_wp2
        go_roundg (gk - 1)
        case measure => have := Hjq.out; omega
        case rel => exact ⟨j + 1, by have := Hjq.out; omega, by go_num, HS, hx.trans hN.1⟩
    · obtain rfl : j = l.length := by omega
      go_wp2
      go_ret
      exact ⟨by rw [hme.out]; rfl, hB.trans hx⟩

end Go.Proofs.YtbgdglcnminbaaaGreat

namespace Go.Proofs.YtbgdglcnminbaaaGreat
set_option linter.unusedVariables false
set_option linter.unusedSimpArgs false
open Go.RowKit Go.Shelf
attribute [local go_sem] Oper.semAt_some

set_option maxRecDepth 100000 in
set_option maxHeartbeats 8000000 in
theorem rsCheck_any (Aq : Option Addr) (cq : Nat) (Ac : Option Addr) (cc : Nat) (p : Pln) (Al : Option Addr) (cl : Nat) (l : List Hd) (w : World) (h : PlnRd w Aq cq Ac cc p) (hl : Rd EHd w Al l) (hlm : l.length ≤ 1000000) :
    Calls Tryz.prog 58 #[p.val Aq cq Ac cc, .slice Al l.length cl] w fun e w' => e = .returned (.int .i64 (p.stChk l)) ∧ Ext w w' := by
  obtain ⟨W, hW, hB, hk, hlt⟩ := box1 w #[.slice Aq p.quo.length cq, .slice Ac p.cons.length cc] 25
  have hc := hk.cell
  have hpc := rpcheck_any Aq cq Ac cc p W (h.ext hB)
  have hrd := h.ext hB
  have hl1 := hl.ext hB
  have hqm := h.qm
  unfold Pln.val at hpc ⊢
  by_cases h0 : p.chk = 0
  case' neg =>
    have d0 : (p.chk != 0) = true := by simpa using h0
    have HV := Lib.hid (show p.stChk l = 1 by unfold Pln.stChk; rw [if_neg h0])
    clear h0
    go_enter Tryz.func58, Tryz.ntmps58
    go_wp2_with fail
    clear hW
    refine hpc.mono ?_
    rintro e w1 ⟨rfl, hb1⟩
    go_wp2
    go_ret
    exact ⟨by rw [HV.out]; rfl, hB.trans hb1⟩
  rw [h0] at hpc
  have H0 := Lib.hid h0
  clear h0
  by_cases h5 : 512 < l.length
  case' pos =>
    have d5 : decide ((512 : Int) < l.length) = true := decide_eq_true (by omega)
    have HV := Lib.hid (show p.stChk l = 4 by unfold Pln.stChk; rw [if_pos H0.out, if_pos h5])
    clear h5
    go_enter Tryz.func58, Tryz.ntmps58
    go_wp2_with fail
    clear hW
    refine hpc.mono ?_
    rintro e w1 ⟨rfl, hb1⟩
    go_wp2
    go_ret
    exact ⟨by rw [HV.out]; rfl, hB.trans hb1⟩
  have d5 : decide ((512 : Int) < l.length) = false := decide_eq_false (by omega)
  have HE := Lib.hid (show p.hdErr l l.length ≠ 0 → p.stChk l = p.hdErr l l.length by intro hn; unfold Pln.stChk; rw [if_pos H0.out, if_neg h5, if_neg hn])
  have HF := Lib.hid (show p.hdErr l l.length = 0 → (p.stF l p.quo.length → p.stChk l = 15) ∧ (¬ p.stF l p.quo.length → p.stChk l = 0) by
    intro hn; unfold Pln.stChk; rw [if_pos H0.out, if_neg h5, if_pos hn]; exact ⟨fun h => if_pos h, fun h => if_neg h⟩)
  replace hlm : l.length ≤ 512 := by omega
  clear h5
  go_enter Tryz.func58, Tryz.ntmps58
  go_wp2_with fail
  clear hW
  refine hpc.mono ?_
  clear hpc
  rintro e w1 ⟨rfl, hb1⟩
  have hrd1 := hrd.ext hb1
  have hl2 := hl1.ext hb1
  have hk1 := hk.ext hb1
  have hE1 := hB.trans hb1
  have hvv := fun b w => rhvalid_any Aq cq Ac cc p b w hqm
  unfold Pln.val Hd.val at hvv
  clear hc hrd hl1 hk
  go_wp2_with fail
  go_loopg [5] l.length (fun n k wr => ∃ j : Nat, j + n = l.length ∧ k = .int .i64 j ∧ Hid (p.hdErr l j = 0) ∧ Ext w1 wr)
  case atStart => exact ⟨0, by omega, rfl, Lib.hid rfl, Ext.refl _⟩
  case round =>
    obtain ⟨j, hjq, rfl, hme, hx⟩ := hrel
    have Hjq := Lib.hid hjq
    have hjN : j ≤ l.length := by omega
    clear hjq
    have hcp := (hk1.ext hx).cell
    have hlp := (hk1.ext hx).lt
    have hN := Near.refl wr
    have hC := hN.2
    by_cases hlt2 : j < l.length
    · obtain ⟨bl, ol, rfl, hbl, g0, g1, g2, g3, g4⟩ := (hl2.ext hx).hd hlt2
      have hgb := ghd_get hlt2
      cases j with
      | zero =>
        simp only [Nat.zero_mul, Nat.add_zero] at g0 g1 g2 g3 g4
        generalize hbe : l[0] = b at *
        have Hgb := Lib.hid hgb
        clear hgb hbe
        have hva := fun d os => hvv b (Sort.grow (redrawn wr d) os)
        go_wp2_with fail
        have hq := quiet_near hN
        refine wp_region_quiet_below (by kernel_rfl) (by kernel_rfl) ?_
        repeat (first | go_big_quiet_skip | (go_big_quiet_want; go_big_quiet_op; first | go_big_quiet_on | (apply Exists.intro; refine ⟨fun _ => ?_, ?_⟩; (focus (first | (go_at_call 82; with_reducible exact Calls.regrown_of (hva _ _)))); go_big_quiet_on)))
        refine wpQuiet_nil ?_
        intro w1 hw1
        clear hq
        replace hw1 := quiet_ext hw1
        replace hN := hN.step hw1
        have hC := hN.2
        clear hva
        cases hv : p.hdOk b
        · have HV := Lib.hid (show p.stChk l = 2 by
            have e := hdAt_2 Hgb.out hv
            have e2 := Pln.hdErr_step hme.out hlt2 (by rw [e]; decide)
            rw [HE.out (by rw [e2, e]; decide), e2, e])
          clear hv
          go_wp2
          go_ret
          exact ⟨by rw [HV.out]; rfl, (hE1.trans hx).trans hN.1⟩
        · have HN := Lib.hid (Pln.hdErr_next hme.out (hdAt_0 Hgb.out hv))
          clear hv
          go_wp2_with fail
          have hq := quiet_near hN
          refine wp_region_quiet_below (by kernel_rfl) (by kernel_rfl) ?_
          repeat (first | go_big_quiet_skip | (go_big_quiet_want; go_big_quiet_op; first | go_big_quiet_on | (apply Exists.intro; refine ⟨fun _ => ?_, ?_⟩; (focus (first | fail)); go_big_quiet_on)))
          refine wpQuiet_nil ?_
          intro w1 hw1
          clear hq
          replace hw1 := quiet_ext hw1
          replace hN := hN.step hw1
          have hC := hN.2
          go_wp2
          go_roundg (l.length - (0 + 1))
          case measure => have := Hjq.out; omega
          case rel => exact ⟨0 + 1, by have := Hjq.out; omega, by go_num, HN, hx.trans hN.1⟩
      | succ m =>
        obtain ⟨b', o', hA, hbl', f0, f1, f2, f3, f4⟩ := (hl2.ext hx).hd (k := m) (by omega)
        injection hA with hA
        injection hA with hA hA2
        subst hA hA2
        have hwj : IntKind.i64.wrap (m : Int) = (m : Int) := IntWalk.i64_in _ (by omega)
        have hga := ghd_get (l := l) (i := m) (by omega)
        have hmi0 : m < l.length := by omega
        have hmi1 : (m : Int) < (l.length : Int) := by omega
        have hmi2 : (m : Int) ≤ (l.length : Int) := by omega
        have hmi3 : m ≤ l.length := by omega
        have dz : decide ((0 : Int) < (m : Int) + 1) = true := decide_eq_true (by omega)
        generalize hbe : l[m + 1] = b at *
        generalize hae : l[m] = a at *
        have Hgb := Lib.hid hgb
        have Hga := Lib.hid hga
        clear hgb hbe hga hae
        have hva := fun d os => hvv b (Sort.grow (redrawn wr d) os)
        go_wp2_with fail
        have hq := quiet_near hN
        refine wp_region_quiet_below (by kernel_rfl) (by kernel_rfl) ?_
        repeat (first | go_big_quiet_skip | (go_big_quiet_want; go_big_quiet_op; first | go_big_quiet_on | (apply Exists.intro; refine ⟨fun _ => ?_, ?_⟩; (focus (first | (go_at_call 82; with_reducible exact Calls.regrown_of (hva _ _)))); go_big_quiet_on)))
        refine wpQuiet_nil ?_
        intro w1 hw1
        clear hq
        replace hw1 := quiet_ext hw1
        replace hN := hN.step hw1
        have hC := hN.2
        clear hva
        cases hv : p.hdOk b
        · have HV := Lib.hid (show p.stChk l = 2 by
            have e := hdAt_2 Hgb.out hv
            have e2 := Pln.hdErr_step hme.out hlt2 (by rw [e]; decide)
            rw [HE.out (by rw [e2, e]; decide), e2, e])
          clear hv
          go_wp2
          go_ret
          exact ⟨by rw [HV.out]; rfl, (hE1.trans hx).trans hN.1⟩
        · have HVT := Lib.hid hv
          clear hv
          have hle := fun w => rless_any28 b a w
          unfold Hd.val at hle
          go_wp2_with fail
          have hq := quiet_near hN
          refine wp_region_quiet_below (by kernel_rfl) (by kernel_rfl) ?_
          repeat (first | go_big_quiet_skip | (go_big_quiet_want; go_big_quiet_op; first | go_big_quiet_on | (apply Exists.intro; refine ⟨fun _ => ?_, ?_⟩; (focus (first | (go_at_call 83; exact Calls.regrown_of (hle _)))); go_big_quiet_on)))
          refine wpQuiet_nil ?_
          intro w1 hw1
          clear hq
          replace hw1 := quiet_ext hw1
          replace hN := hN.step hw1
          have hC := hN.2
          clear hle
          by_cases hcm : 0 < hdCmp a b
          · have HV := Lib.hid (show p.stChk l = 9 by
              have e := hdAt_9 Hgb.out Hga.out HVT.out hcm
              have e2 := Pln.hdErr_step hme.out hlt2 (by rw [e]; decide)
              rw [HE.out (by rw [e2, e]; decide), e2, e])
            rw [decide_eq_true hcm]
            clear hcm
            go_wp2
            go_ret
            exact ⟨by rw [HV.out]; rfl, (hE1.trans hx).trans hN.1⟩
          · rw [decide_eq_false hcm]
            have HN := Lib.hid (Pln.hdErr_next hme.out (hdAt_ok Hgb.out Hga.out HVT.out hcm))
            clear hcm
            go_wp2
            go_roundg (gk - 1)
            case measure => have := Hjq.out; omega
            case rel => exact ⟨m + 1 + 1, by have := Hjq.out; omega, by go_num, HN, hx.trans hN.1⟩
    · obtain rfl : j = l.length := by omega
      have hhd : ∀ x ∈ l, p.hdOk x = true := fun x hx => by
        obtain ⟨i, hi, rfl⟩ := List.mem_iff_getElem.1 hx
        exact Pln.hdErr_ok hme.out i hi hi
      have hF := HF.out hme.out
      have hiff := fitB_iff H0.out hhd
      have hfi := rfits28_any Aq cq Ac cc p Al cl l wr (hrd1.ext hx) (hl2.ext hx) (by omega) hhd
      unfold Pln.val at hfi
      cases hfb : p.fitB l l.length
      · have HV := Lib.hid (hF.1 (by
          apply Classical.byContradiction
          intro hn
          have := hiff.2 hn
          rw [hfb] at this
          cases this))
        rw [hfb] at hfi
        clear hfb hiff hF hhd HE HF
        go_wp2_with fail
        refine hfi.mono ?_
        rintro e w9 ⟨rfl, hb9⟩
        go_wp2
        go_ret
        exact ⟨by rw [HV.out]; rfl, (hE1.trans hx).trans hb9⟩
      · have HV := Lib.hid (hF.2 (hiff.1 hfb))
        rw [hfb] at hfi
        clear hfb hiff hF hhd HE HF
        go_wp2_with fail
        refine hfi.mono ?_
        rintro e w9 ⟨rfl, hb9⟩
        go_wp2
        go_ret
        exact ⟨by rw [HV.out]; rfl, (hE1.trans hx).trans hb9⟩

set_option maxRecDepth 100000 in
set_option maxHeartbeats 4000000 in
theorem rtables_any (Aq : Option Addr) (cq : Nat) (Ac : Option Addr) (cc : Nat) (p : Pln) (Al : Option Addr) (cl : Nat) (bk : List Bk) (Ah : Option Addr) (ch : Nat) (hd : List Hd) (w : World) (h : PlnRd w Aq cq Ac cc p) (hbk : Rd EBk w Al bk) (hbm : bk.length ≤ 1000000) (hhd : Rd EHd w Ah hd) (hhm : hd.length ≤ 1000000) :
    Calls Tryz.prog 30 #[.agg #[.slice Aq p.quo.length cq, .slice Ac p.cons.length cc, .slice Al bk.length cl, .slice Ah hd.length ch]] w fun e w' => e = .returned (.int .i64 (p.tabE bk hd)) ∧ Ext w w' := by
  obtain ⟨W, hW, hB, hk, hlt⟩ := box1 w #[.slice Aq p.quo.length cq, .slice Ac p.cons.length cc, .slice Al bk.length cl, .slice Ah hd.length ch] 29
  have hc := hk.cell
  have hpc := rpcheck_any Aq cq Ac cc p W (h.ext hB)
  have hrd := h.ext hB
  have hbc := fun w h hb => rbCheck_any Aq cq Ac cc p Al cl bk w h hb hbm
  have hsc := fun w h hb => rsCheck_any Aq cq Ac cc p Ah ch hd w h hb hhm
  unfold Pln.val at hpc hbc hsc
  by_cases h0 : p.chk = 0
  case' neg =>
    have d0 : (p.chk != 0) = true := by simpa using h0
    have HV := Lib.hid (show p.tabE bk hd = p.chk from if_pos h0)
    clear h0
    go_enter Tryz.func30, Tryz.ntmps30
    go_wp2_with fail
    clear hW
    refine hpc.mono ?_
    clear hpc
    rintro e w1 ⟨rfl, hb1⟩
    go_wp2
    go_ret
    exact ⟨by rw [HV.out]; rfl, hB.trans hb1⟩
  have HT := Lib.hid (show p.tabE bk hd = if p.bkChk bk ≠ 0 then p.bkChk bk else p.stChk hd from if_neg (fun h => h h0))
  rw [h0] at hpc
  clear h0
  by_cases h1 : p.bkChk bk = 0
  case' neg =>
    have d1 : (p.bkChk bk != 0) = true := by simpa using h1
    have HV := Lib.hid (HT.out.trans (if_pos h1))
    clear h1
    go_enter Tryz.func30, Tryz.ntmps30
    go_wp2_with fail
    clear hW
    refine hpc.mono ?_
    clear hpc
    rintro e w1 ⟨rfl, hb1⟩
    have c1 := (hk.ext hb1).cell
    have l1 := (hk.ext hb1).lt
    go_wp2_with fail
    refine (hbc _ (hrd.ext hb1) ((hbk.ext hB).ext hb1)).mono ?_
    rintro e w2 ⟨rfl, hb2⟩
    go_wp2
    go_ret
    exact ⟨by rw [HV.out]; rfl, (hB.trans hb1).trans hb2⟩
  have HV := Lib.hid (HT.out.trans (if_neg (fun h => h h1)))
  rw [h1] at hbc
  clear h1 HT
  go_enter Tryz.func30, Tryz.ntmps30
  go_wp2_with fail
  clear hW
  refine hpc.mono ?_
  clear hpc
  rintro e w1 ⟨rfl, hb1⟩
  have c1 := (hk.ext hb1).cell
  have l1 := (hk.ext hb1).lt
  go_wp2_with fail
  refine (hbc _ (hrd.ext hb1) ((hbk.ext hB).ext hb1)).mono ?_
  rintro e w2 ⟨rfl, hb2⟩
  have c2 := ((hk.ext hb1).ext hb2).cell
  have l2 := ((hk.ext hb1).ext hb2).lt
  go_wp2_with fail
  refine (hsc _ ((hrd.ext hb1).ext hb2) (((hhd.ext hB).ext hb1).ext hb2)).mono ?_
  rintro e w3 ⟨rfl, hb3⟩
  go_wp2
  go_ret
  exact ⟨by rw [HV.out]; rfl, ((hB.trans hb1).trans hb2).trans hb3⟩

end Go.Proofs.YtbgdglcnminbaaaGreat
