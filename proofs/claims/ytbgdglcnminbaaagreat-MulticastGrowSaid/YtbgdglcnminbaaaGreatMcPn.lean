/- Layer 35 (multicast): what Prune leaves, plain. -/
import Derived.Test.YtbgdglcnminbaaaGreatMcXZ
namespace Go.Proofs.YtbgdglcnminbaaaGreat
set_option linter.unusedVariables false
open Go.RowKit

theorem brE_of {p : Pln} {q : Req} {m : List Br} {i : Nat} {at_ : List Int} (c0 : 0 ≤ (gbr m i).con) (c1 : (gbr m i).con < p.cons.length) (p0 : -1 ≤ (gbr m i).par) (p1 : (gbr m i).par < i)
    (root : (gbr m i).par = -1 → (gc p.cons (gbr m i).con).src = q.src ∧ q.ready ≤ (gbr m i).beg)
    (next : 0 ≤ (gbr m i).par → (gc p.cons (gbr m i).con).src = p.nd m (gbr m i).par.toNat ∧ (gbr m (gbr m i).par.toNat).arr ≤ (gbr m i).beg)
    (new : gi at_ (p.nd m i) < 0) (at0 : (gc p.cons (gbr m i).con).atE (gbr m i).beg q.size = 0)
    (en : (gbr m i).en = (gbr m i).beg + (gc p.cons (gbr m i).con).dur q.size) (arr : (gbr m i).arr = (gbr m i).en + (gc p.cons (gbr m i).con).rng) (dead : (gbr m i).arr ≤ q.dead) : p.brE q m i at_ = 0 := by
  have hat : (gc p.cons (gbr m i).con).arrT (gbr m i).beg q.size = (gbr m i).beg + (gc p.cons (gbr m i).con).dur q.size + (gc p.cons (gbr m i).con).rng := by
    unfold Con.arrT Con.aftT
    rw [if_pos at0]
    omega
  have new' : ¬ 0 ≤ gi at_ (gc p.cons (gbr m i).con).dst := by unfold Pln.nd at new; omega
  have key : ∀ node ready, (gc p.cons (gbr m i).con).src = node → ready ≤ (gbr m i).beg → brT (gc p.cons (gbr m i).con) q (gbr m i) at_ node ready = 0 := by
    intro node ready h1 h2
    unfold brT
    rw [if_pos h1, if_neg new', if_neg (by omega), if_neg (fun h => h at0), if_neg (fun h => h ⟨by omega, by omega⟩), if_neg (by omega)]
  unfold Pln.brE
  rw [if_neg (by omega)]
  by_cases e : 0 ≤ (gbr m i).par
  · rw [if_pos e]
    exact key _ _ (next e).1 (next e).2
  · rw [if_neg e]
    exact key _ _ (root (by omega)).1 (root (by omega)).2

/-- The number of branches that stay among the first ones. -/
def cn (l : List Br) (nd : List Bool) (k : Nat) : Nat := (prS l nd k).1.length
theorem prS_yes {l : List Br} {nd : List Bool} {k : Nat} (h : nd.getD k false = true) : prS l nd (k + 1) = ((prS l nd k).1 ++ [{ gbr l k with par := if 0 ≤ (gbr l k).par then gi (prS l nd k).2 (gbr l k).par else (gbr l k).par }], (prS l nd k).2.set k (prS l nd k).1.length) := by
  rw [prS, if_pos h]
theorem prS_no {l : List Br} {nd : List Bool} {k : Nat} (h : ¬ nd.getD k false = true) : prS l nd (k + 1) = prS l nd k := by
  rw [prS, if_neg h]
theorem cn_yes {l : List Br} {nd : List Bool} {k : Nat} (h : nd.getD k false = true) : cn l nd (k + 1) = cn l nd k + 1 := by
  unfold cn; rw [prS_yes h]; simp
theorem cn_no {l : List Br} {nd : List Bool} {k : Nat} (h : ¬ nd.getD k false = true) : cn l nd (k + 1) = cn l nd k := by
  unfold cn; rw [prS_no h]
theorem cn_mono {l : List Br} {nd : List Bool} {k : Nat} : ∀ d, cn l nd k ≤ cn l nd (k + d)
  | 0 => Nat.le_refl _
  | d + 1 => by
    have := cn_mono (l := l) (nd := nd) (k := k) d
    by_cases h : nd.getD (k + d) false = true
    · rw [← Nat.add_assoc, cn_yes h]; omega
    · rw [← Nat.add_assoc, cn_no h]; exact this
theorem cn_le {l : List Br} {nd : List Bool} {a b : Nat} (h : a ≤ b) : cn l nd a ≤ cn l nd b := by
  obtain ⟨d, rfl⟩ : ∃ d, b = a + d := ⟨b - a, by omega⟩
  exact cn_mono d
theorem cn_lt {l : List Br} {nd : List Bool} {j b : Nat} (hj : nd.getD j false = true) (h : j < b) : cn l nd j < cn l nd b := by
  have h1 := cn_yes (l := l) hj
  have h2 := cn_le (l := l) (nd := nd) (show j + 1 ≤ b by omega)
  omega
theorem cn_of {l : List Br} {nd : List Bool} {i : Nat} : ∀ k, i < cn l nd k → ∃ j, j < k ∧ nd.getD j false = true ∧ cn l nd j = i
  | 0, h => by simp [cn, prS] at h
  | k + 1, h => by
    by_cases hn : nd.getD k false = true
    · rw [cn_yes hn] at h
      by_cases e : i = cn l nd k
      · exact ⟨k, by omega, hn, e.symm⟩
      · obtain ⟨j, h1, h2, h3⟩ := cn_of (l := l) (nd := nd) (i := i) k (by omega)
        exact ⟨j, Nat.lt_succ_of_lt h1, h2, h3⟩
    · rw [cn_no hn] at h
      obtain ⟨j, h1, h2, h3⟩ := cn_of k h
      exact ⟨j, by omega, h2, h3⟩
theorem prS_idx {l : List Br} {nd : List Bool} : ∀ k, k ≤ l.length → ∀ j, j < k → nd.getD j false = true → gi (prS l nd k).2 (j : Int) = cn l nd j
  | 0, _, j, h, _ => by omega
  | k + 1, hk, j, hj, hn => by
    by_cases hnk : nd.getD k false = true
    · rw [prS_yes hnk]
      show gi (List.set _ _ _) _ = _
      unfold gi
      rw [Int.toNat_natCast]
      by_cases e : j = k
      · subst e
        rw [List.getD_eq_getElem?_getD, List.getElem?_set_self (show j < (prS l nd j).2.length by rw [prS_len]; omega)]
        rfl
      · have ih := prS_idx (l := l) (nd := nd) k (by omega) j (by omega) hn
        unfold gi at ih
        rw [Int.toNat_natCast] at ih
        rw [List.getD_eq_getElem?_getD, List.getElem?_set_ne (fun h => e h.symm), ← List.getD_eq_getElem?_getD]
        exact ih
    · rw [prS_no hnk]
      have : j ≠ k := fun e => hnk (e ▸ hn)
      exact prS_idx k (by omega) j (by omega) hn
theorem prS_pre {l : List Br} {nd : List Bool} {k : Nat} : ∀ d, ∃ t, (prS l nd (k + d)).1 = (prS l nd k).1 ++ t
  | 0 => ⟨[], by simp⟩
  | d + 1 => by
    obtain ⟨t, ht⟩ := prS_pre (l := l) (nd := nd) (k := k) d
    by_cases h : nd.getD (k + d) false = true
    · rw [← Nat.add_assoc, prS_yes h]
      exact ⟨t ++ [_], by rw [ht, List.append_assoc]⟩
    · rw [← Nat.add_assoc, prS_no h]
      exact ⟨t, ht⟩
theorem gbr_app {a b : List Br} {i : Nat} (h : i < a.length) : gbr (a ++ b) i = gbr a i := by
  unfold gbr
  rw [List.getD_eq_getElem?_getD, List.getD_eq_getElem?_getD, List.getElem?_append_left h]
theorem gbr_snoc {a : List Br} {x : Br} {b : List Br} : gbr (a ++ [x] ++ b) a.length = x := by
  simp [gbr, List.getD_eq_getElem?_getD]
/-- The needed branches hold what leads to them. -/
def UpC (l : List Br) (nd : List Bool) : Prop := ∀ j, j < l.length → nd.getD j false = true → 0 ≤ (gbr l j).par → nd.getD (gbr l j).par.toNat false = true
/-- The parent of a branch that stays. -/
def prP (l : List Br) (nd : List Bool) (j : Nat) : Int := if 0 ≤ (gbr l j).par then (cn l nd (gbr l j).par.toNat : Nat) else (gbr l j).par
/-- A branch that stays. -/
theorem pr_at {l : List Br} {nd : List Bool} (T : ∀ k, k < l.length → (gbr l k).par < k) (U : UpC l nd) {j : Nat} (hj : j < l.length) (hn : nd.getD j false = true) : gbr (prS l nd l.length).1 (cn l nd j) = { gbr l j with par := prP l nd j } := by
  obtain ⟨t, ht⟩ := prS_pre (l := l) (nd := nd) (k := j + 1) (l.length - (j + 1))
  rw [show j + 1 + (l.length - (j + 1)) = l.length by omega] at ht
  rw [ht, prS_yes hn]
  show gbr ((prS l nd j).1 ++ [_] ++ t) (prS l nd j).1.length = _
  rw [gbr_snoc]
  unfold prP
  by_cases e : 0 ≤ (gbr l j).par
  · rw [if_pos e, if_pos e]
    have h1 := T j hj
    have h2 := prS_idx (l := l) (nd := nd) j (by omega) (gbr l j).par.toNat (by omega) (U j hj hn e)
    rw [show (((gbr l j).par.toNat : Nat) : Int) = (gbr l j).par by omega] at h2
    rw [h2]
  · rw [if_neg e, if_neg e]

/-- Behind the pruning: the times. -/
theorem pr_times {p : Pln} {q : Req} {l : List Br} {nd : List Bool} (V : VT p q l) (U : UpC l nd) : ∀ k, k ≤ l.length → ∀ x, 0 ≤ x → x < 16 →
    gi (p.mAt q (prS l nd l.length).1 (cn l nd k)) x = gi (p.mAt q l k) x ∨ gi (p.mAt q (prS l nd l.length).1 (cn l nd k)) x = -1
  | 0, _, x, _, _ => .inl rfl
  | k + 1, hk, x, h0, h1 => by
    have b := V.br k (by omega)
    have ih := pr_times V U k (by omega) x h0 h1
    by_cases hn : nd.getD k false = true
    · have hg := pr_at (fun k hk => (V.br k hk).par1) U (show k < l.length by omega) hn
      rw [cn_yes hn, mAt_set V (by omega) h0]
      show gi (List.set _ _ _) x = _ ∨ gi (List.set _ _ _) x = _
      rw [hg]
      show gi (List.set _ (p.nd l k).toNat (gbr l k).arr) x = _ ∨ gi (List.set _ (p.nd l k).toNat (gbr l k).arr) x = _
      have hr := V.req
      have := b.nd1
      rw [gi_set16 (p.mAt_len _ _ _) b.nd0 (by omega) h0]
      by_cases e : x = p.nd l k
      · rw [if_pos e, if_pos e]; exact .inl rfl
      · rw [if_neg e, if_neg e]; exact ih
    · rw [cn_no hn, mAt_set V (by omega) h0]
      by_cases e : x = p.nd l k
      · rw [if_pos e]
        right
        have h2 : gi (p.mAt q l k) x = -1 := mAt_none V k (by omega) x h0 h1 (fun e2 => V.nsrc (show k < l.length by omega) (e.symm.trans e2)) (fun j hj e2 => V.inj hj (by omega) (e2.symm.trans e))
        rcases ih with ih | ih
        · rw [ih, h2]
        · exact ih
      · rw [if_neg e]; exact ih
theorem pr_len {l : List Br} {nd : List Bool} : (prS l nd l.length).1.length = cn l nd l.length := rfl
/-- What stays is a tree. -/
theorem pr_vt {p : Pln} {q : Req} {l : List Br} {nd : List Bool} (V : VT p q l) (U : UpC l nd) : ∀ i, i < (prS l nd l.length).1.length → p.brE q (prS l nd l.length).1 i (p.mAt q (prS l nd l.length).1 i) = 0 := fun i hi => by
  obtain ⟨j, hj, hn, rfl⟩ := cn_of l.length hi
  have b := V.br j hj
  have T : ∀ k, k < l.length → (gbr l k).par < k := fun k hk => (V.br k hk).par1
  have hg := pr_at T U hj hn
  have hp0 := b.par0
  have hp1 := b.par1
  have hnd : p.nd (prS l nd l.length).1 (cn l nd j) = p.nd l j := by unfold Pln.nd; rw [hg]
  refine brE_of ?_ ?_ ?_ ?_ (fun e => ?_) (fun e => ?_) ?_ ?_ ?_ ?_ ?_
  · rw [hg]; exact b.con0
  · rw [hg]; exact b.con1
  · rw [hg]; show -1 ≤ prP l nd j; unfold prP; split <;> omega
  · rw [hg]; show prP l nd j < _; unfold prP
    split
    · rename_i e
      have := cn_lt (l := l) (U j hj hn e) (show (gbr l j).par.toNat < j by omega)
      omega
    · omega
  · rw [hg] at e ⊢
    have e' : prP l nd j = -1 := e
    unfold prP at e'
    exact b.root (by split at e' <;> omega)
  · rw [hg] at e ⊢
    have e' : 0 ≤ prP l nd j := e
    have e2 : 0 ≤ (gbr l j).par := by unfold prP at e'; split at e' <;> omega
    have hgp := pr_at T U (show (gbr l j).par.toNat < l.length by omega) (U j hj hn e2)
    have e3 : (prP l nd j).toNat = cn l nd (gbr l j).par.toNat := by unfold prP; rw [if_pos e2]; omega
    show (gc p.cons (gbr l j).con).src = p.nd _ (prP l nd j).toNat ∧ (gbr _ (prP l nd j).toNat).arr ≤ (gbr l j).beg
    rw [e3]
    unfold Pln.nd
    rw [hgp]
    exact b.next e2
  · rw [hnd]
    have hr := V.req
    have h2 := b.nd1
    rcases pr_times V U j (by omega) (p.nd l j) b.nd0 (by omega) with h | h
    · rw [h]; exact b.new
    · rw [h]; decide
  · rw [hg]; exact b.at0
  · rw [hg]; exact b.en
  · rw [hg]; exact b.arr
  · rw [hg]; exact b.dead

/-- What a fold of marks leaves. -/
theorem marks {j : Nat} : ∀ (ks : List Int) (nd : List Bool), (∀ x ∈ ks, 0 ≤ x ∧ x < nd.length) → ((ks.foldl (fun nd k => nd.set k.toNat true) nd).getD j false = true ↔ nd.getD j false = true ∨ (j : Int) ∈ ks)
  | [], nd, _ => by simp
  | k :: ks, nd, h => by
    obtain ⟨h0, h1⟩ := h k (List.mem_cons_self ..)
    rw [List.foldl_cons, marks ks _ (fun x hx => by rw [List.length_set]; exact h x (List.mem_cons_of_mem _ hx))]
    rw [List.getD_eq_getElem?_getD, List.getElem?_set]
    by_cases e : k.toNat = j
    · rw [if_pos e]
      have : k.toNat < nd.length := by omega
      rw [if_pos this]
      simp [show (j : Int) = k by omega]
    · rw [if_neg e, ← List.getD_eq_getElem?_getD, List.mem_cons]
      have : ¬ (j : Int) = k := by omega
      simp [this]
theorem neeM_iff {p : Pln} {q : Req} {l : List Br} (V : VT p q l) {j : Nat} : ∀ (ms : List Int) (nd : List Bool), nd.length = l.length → ((ms.foldl (p.nee1 l) nd).getD j false = true ↔ nd.getD j false = true ∨ ∃ m ∈ ms, (j : Int) ∈ upN l (p.lead l m + 1).toNat)
  | [], nd, _ => by simp
  | m :: ms, nd, hn => by
    have hb := lead_bd p l m
    rw [List.foldl_cons, neeM_iff V ms _ (by unfold Pln.nee1; rw [nee_len, hn])]
    unfold Pln.nee1
    rw [marks _ _ (fun x hx => by rw [hn]; exact V.tree.up _ (by omega) x hx)]
    simp [or_assoc]
theorem nee_iff {p : Pln} {q : Req} {l : List Br} (V : VT p q l) {mem : List Int} {j : Nat} : (p.nee l mem).getD j false = true ↔ ∃ m ∈ mem, (j : Int) ∈ upN l (p.lead l m + 1).toNat := by
  unfold Pln.nee
  rw [neeM_iff V mem _ (by simp)]
  have : (List.replicate l.length false).getD j false = false := by
    rw [List.getD_eq_getElem?_getD, List.getElem?_replicate]
    split <;> rfl
  rw [this]
  simp
theorem up_par {p : Pln} {q : Req} {l : List Br} (V : VT p q l) {j : Nat} (h0 : 0 ≤ (gbr l j).par) : ∀ k, k ≤ l.length → (j : Int) ∈ upN l k → (gbr l j).par ∈ upN l k
  | 0, _, h => by rw [upN_0] at h; cases h
  | k + 1, hk, h => by
    have b := V.br k (by omega)
    have b0 := b.par0
    have b1 := b.par1
    rw [upN_s, if_neg (by omega)] at h ⊢
    rcases List.mem_cons.1 h with e | h
    · have e : j = k := by omega
      subst e
      refine List.mem_cons_of_mem _ ?_
      obtain ⟨a, ha⟩ : ∃ a : Nat, ((gbr l j).par + 1).toNat = a + 1 := ⟨(gbr l j).par.toNat, by omega⟩
      rw [ha, upN_s, show (gbr l j).par = (a : Int) by omega]
      exact List.mem_cons_self ..
    · exact List.mem_cons_of_mem _ (up_par V h0 _ (by omega) h)
theorem nee_up {p : Pln} {q : Req} {l : List Br} (V : VT p q l) (mem : List Int) : UpC l (p.nee l mem) := fun j hj hn h0 => by
  obtain ⟨m, hm, hx⟩ := (nee_iff V).1 hn
  have hb := lead_bd p l m
  refine (nee_iff V).2 ⟨m, hm, ?_⟩
  rw [show (((gbr l j).par.toNat : Nat) : Int) = (gbr l j).par by omega]
  exact up_par V h0 _ (by omega) hx
/-- The branch that leads to a node. -/
theorem lead_at {p : Pln} {q : Req} {l : List Br} (V : VT p q l) {a : Nat} (ha : a < l.length) : p.lead l (p.nd l a) = a := by
  unfold Pln.lead
  refine findI_at ha ?_ ?_
  · rw [List.any_eq_false]
    intro b hb
    rw [List.mem_take_iff_getElem] at hb
    obtain ⟨i, hi, rfl⟩ := hb
    have h := V.inj (show i < a by omega) ha
    have h2 : p.nd l i = (gc p.cons l[i].con).dst := by unfold Pln.nd; rw [gbr_get (show i < l.length by omega)]
    rw [h2] at h
    unfold Pln.leads
    simpa using h
  · unfold Pln.leads Pln.nd
    rw [gbr_get ha]
    simp
/-- The branches up from one that stays. -/
theorem up_map {p : Pln} {q : Req} {l : List Br} {nd : List Bool} (V : VT p q l) (U : UpC l nd) : ∀ k, k ≤ l.length → (k = 0 ∨ nd.getD (k - 1) false = true) → upN (prS l nd l.length).1 (if k = 0 then 0 else cn l nd (k - 1) + 1) = (upN l k).map (fun x => ((cn l nd x.toNat : Nat) : Int))
  | 0, _, _ => by rw [if_pos rfl, upN_0, upN_0]; rfl
  | k + 1, hk, h => by
    have hn : nd.getD k false = true := by simpa using h
    have b := V.br k (by omega)
    have b0 := b.par0
    have b1 := b.par1
    have hg := pr_at (fun k hk => (V.br k hk).par1) U (show k < l.length by omega) hn
    have ih := up_map V U ((gbr l k).par + 1).toNat (by omega) (by
      by_cases e : 0 ≤ (gbr l k).par
      · right
        rw [show ((gbr l k).par + 1).toNat - 1 = (gbr l k).par.toNat by omega]
        exact U k (by omega) hn e
      · left; omega)
    have e1 : prP l nd k = if 0 ≤ (gbr l k).par then ((cn l nd (gbr l k).par.toNat : Nat) : Int) else (gbr l k).par := rfl
    have hpar : (gbr (prS l nd l.length).1 (cn l nd k)).par = prP l nd k := by rw [hg]
    have hlt : -1 ≤ prP l nd k ∧ prP l nd k < cn l nd k := by
      rw [e1]
      split
      · rename_i e
        have := cn_lt (l := l) (U k (by omega) hn e) (show (gbr l k).par.toNat < k by omega)
        omega
      · omega
    rw [if_neg (by omega), Nat.add_sub_cancel, upN_s, upN_s, if_neg (by rw [hpar]; omega), if_neg (by omega), List.map_cons, ← ih, hpar]
    have : (prP l nd k + 1).toNat = if ((gbr l k).par + 1).toNat = 0 then 0 else cn l nd (((gbr l k).par + 1).toNat - 1) + 1 := by
      rw [e1]
      by_cases e : 0 ≤ (gbr l k).par
      · rw [if_pos e, if_neg (by omega), show ((gbr l k).par + 1).toNat - 1 = (gbr l k).par.toNat by omega]; omega
      · rw [if_neg e, if_pos (by omega)]; omega
    rw [this]
    simp
/-- A tree of which all is needed stays as it is. -/
theorem prS_all {p : Pln} {q : Req} {m : List Br} (V : VT p q m) {nd : List Bool} (h : ∀ j, j < m.length → nd.getD j false = true) : ∀ k, k ≤ m.length → (prS m nd k).1 = m.take k ∧ ∀ j : Nat, j < k → gi (prS m nd k).2 (j : Int) = j
  | 0, _ => ⟨by simp [prS], fun j hj => by omega⟩
  | k + 1, hk => by
    obtain ⟨h1, h2⟩ := prS_all V h k (by omega)
    have b := V.br k (by omega)
    have b0 := b.par0
    have b1 := b.par1
    have hl : (prS m nd k).1.length = k := by rw [h1, List.length_take]; omega
    rw [prS_yes (h k (by omega))]
    constructor
    · show (prS m nd k).1 ++ [_] = _
      have e : (if 0 ≤ (gbr m k).par then gi (prS m nd k).2 (gbr m k).par else (gbr m k).par) = (gbr m k).par := by
        split
        · rename_i e
          have := h2 (gbr m k).par.toNat (by omega)
          rw [show (((gbr m k).par.toNat : Nat) : Int) = (gbr m k).par by omega] at this
          exact this
        · rfl
      rw [e, h1, List.take_succ_eq_append_getElem (by omega)]
      rw [gbr_get (by omega)]
    · intro j hj
      show gi (List.set _ _ _) _ = _
      rw [hl]
      unfold gi
      rw [Int.toNat_natCast, List.getD_eq_getElem?_getD, List.getElem?_set]
      by_cases e : k = j
      · subst e
        rw [if_pos rfl, prS_len]
        rw [if_pos (by omega)]
        rfl
      · rw [if_neg e, ← List.getD_eq_getElem?_getD]
        have := h2 j (by omega)
        unfold gi at this
        rw [Int.toNat_natCast] at this
        exact this

/-- What is known of the pruned tree. -/
structure PrunedP (p : Pln) (q : Req) (mem : List Int) (l m : List Br) : Prop where
  chk : p.mchk q mem m = 0
  again : p.prune m mem = m
  times : ∀ x, 0 ≤ x → x < 16 → gi (p.mAt q m m.length) x = gi (p.mAt q l l.length) x ∨ gi (p.mAt q m m.length) x = -1
  mem : ∀ x ∈ mem, 0 ≤ gi (p.mAt q m m.length) x
  sub : ∀ x ∈ m, ∃ y ∈ l, x.hop = y.hop
theorem memsB_in {N : Nat} {src : Int} {l : List Int} (h : memsB N src l = true) {x : Int} (hx : x ∈ l) : 0 ≤ x ∧ x < N ∧ x ≠ src := by
  obtain ⟨i, hi, rfl⟩ := List.mem_iff_getElem.1 hx
  unfold memsB at h
  have := (of_decide_eq_true h) i hi
  exact ⟨this.1, this.2.1, this.2.2.1⟩
theorem mErr_of {p : Pln} {q : Req} {l : List Br} : ∀ {n : Nat}, (∀ k, k < n → p.brE q l k (p.mAt q l k) = 0) → p.mErr q l n = 0
  | 0, _ => rfl
  | n + 1, h => by
    show (if p.mErr q l n = 0 then _ else _) = _
    rw [if_pos (mErr_of (fun k hk => h k (by omega)))]
    exact h n (by omega)
theorem mchk_of {p : Pln} {q : Req} {mem : List Int} {l : List Br} (h1 : fineR p q = true) (h2 : memsB p.quo.length q.src mem = true) (h3 : l.length ≤ 16) (h4 : p.mErr q l l.length = 0) (h5 : ∀ m ∈ mem, 0 ≤ gi (p.mAt q l l.length) m) : p.mchk q mem l = 0 := by
  unfold Pln.mchk
  rw [if_pos ⟨h1, h2⟩, if_neg (by omega), if_pos h4, if_neg ?_]
  simp only [List.any_eq_true, decide_eq_true_eq, not_exists, not_and]
  intro x hx
  have := h5 x hx
  omega
theorem mchk_nil {p : Pln} {q : Req} {mem : List Int} {l : List Br} (h : p.mchk q mem l = 0) : p.mchk q [] l = 0 := by
  obtain ⟨h1, h2, h3, h4, h5⟩ := mchk_ok h
  exact mchk_of h1 (by unfold memsB; simp) h3 h4 (fun m hm => by cases hm)
/-- A member has a branch. -/
theorem mem_br {p : Pln} {q : Req} {mem : List Int} {l : List Br} (h : p.mchk q mem l = 0) {x : Int} (hx : x ∈ mem) : ∃ a, a < l.length ∧ p.nd l a = x ∧ p.lead l x = a := by
  have V := mchk_vt h
  obtain ⟨h1, h2, h3, h4, h5⟩ := mchk_ok h
  obtain ⟨m0, m1, m2⟩ := memsB_in h2 hx
  have h6 := h5 x hx
  have hr := V.req
  have : ∃ a, a < l.length ∧ x = p.nd l a := by
    apply Classical.byContradiction
    intro hn
    have := mAt_none V l.length (Nat.le_refl _) x m0 (by omega) m2 (fun j hj e => hn ⟨j, hj, e⟩)
    omega
  obtain ⟨a, ha, rfl⟩ := this
  exact ⟨a, ha, rfl, lead_at V ha⟩
theorem pruned {p : Pln} {q : Req} {mem : List Int} {l : List Br} (h : p.mchk q mem l = 0) : PrunedP p q mem l (p.prune l mem) := by
  have V := mchk_vt h
  obtain ⟨h1, h2, h3, h4, h5⟩ := mchk_ok h
  have U := nee_up V mem
  have T : ∀ k, k < l.length → (gbr l k).par < k := fun k hk => (V.br k hk).par1
  have hm : p.prune l mem = (prS l (p.nee l mem) l.length).1 := rfl
  have hbr := pr_vt V U
  have hti := pr_times V U l.length (Nat.le_refl _)
  have hat := fun j hj hn => pr_at (nd := p.nee l mem) (j := j) T U hj hn
  have hum := up_map V U
  have hlen := prS_out l (p.nee l mem) l.length
  rw [← pr_len] at hti
  have hcn : ∀ j, j < l.length → (p.nee l mem).getD j false = true → cn l (p.nee l mem) j < (prS l (p.nee l mem) l.length).1.length := fun j hj hn => cn_lt hn hj
  have hof : ∀ i, i < (prS l (p.nee l mem) l.length).1.length → ∃ j, j < l.length ∧ (p.nee l mem).getD j false = true ∧ cn l (p.nee l mem) j = i := fun i hi => cn_of l.length hi
  rw [← hm] at hbr hti hat hum hlen hcn hof
  have VM : VT p q (p.prune l mem) := ⟨h1, by omega, fun k hk => brV h1 (hbr k hk)⟩
  have hmem : ∀ x ∈ mem, ∃ a, a < l.length ∧ p.nd l a = x ∧ p.lead l x = a ∧ (p.nee l mem).getD a false = true := fun x hx => by
    obtain ⟨a, ha, e1, e2⟩ := mem_br h hx
    refine ⟨a, ha, e1, e2, (nee_iff V).2 ⟨x, hx, ?_⟩⟩
    rw [e2, show ((a : Int) + 1).toNat = a + 1 by omega, upN_s]
    exact List.mem_cons_self ..
  have hndm : ∀ j, j < l.length → (p.nee l mem).getD j false = true → p.nd (p.prune l mem) (cn l (p.nee l mem) j) = p.nd l j := fun j hj hn => by
    unfold Pln.nd; rw [hat j hj hn]
  have hge : ∀ x ∈ mem, 0 ≤ gi (p.mAt q (p.prune l mem) (p.prune l mem).length) x := fun x hx => by
    obtain ⟨a, ha, e1, e2, hn⟩ := hmem x hx
    have h7 := mAt_nd VM _ (Nat.le_refl _) _ (hcn a ha hn)
    rw [hndm a ha hn, e1, hat a ha hn] at h7
    rw [h7]
    exact (V.br a ha).arr0
  have hchk : p.mchk q mem (p.prune l mem) = 0 := mchk_of h1 h2 (by omega) (mErr_of hbr) hge
  refine ⟨hchk, ?_, hti, hge, fun x hx => ?_⟩
  · have hall : ∀ i, i < (p.prune l mem).length → (p.nee (p.prune l mem) mem).getD i false = true := fun i hi => by
      obtain ⟨j, hj, hn, rfl⟩ := hof i hi
      obtain ⟨x, hx, hu⟩ := (nee_iff V).1 hn
      obtain ⟨a, ha, e1, e2, hna⟩ := hmem x hx
      refine (nee_iff VM).2 ⟨x, hx, ?_⟩
      have e3 : p.lead (p.prune l mem) x = cn l (p.nee l mem) a := by
        rw [← e1, ← hndm a ha hna]
        exact lead_at VM (hcn a ha hna)
      have e4 := hum (a + 1) (by omega) (.inr (by simpa using hna))
      rw [if_neg (by omega), Nat.add_sub_cancel] at e4
      rw [e3, show (((cn l (p.nee l mem) a : Nat) : Int) + 1).toNat = cn l (p.nee l mem) a + 1 by omega, e4]
      rw [e2, show ((a : Int) + 1).toNat = a + 1 by omega] at hu
      exact List.mem_map.2 ⟨(j : Int), hu, by rw [Int.toNat_natCast]⟩
    have h8 := (prS_all VM hall _ (Nat.le_refl _)).1
    rw [List.take_length] at h8
    exact h8
  · obtain ⟨i, hi, rfl⟩ := List.mem_iff_getElem.1 hx
    obtain ⟨j, hj, hn, e⟩ := hof i hi
    refine ⟨l[j], List.getElem_mem hj, ?_⟩
    have h9 := hat j hj hn
    rw [e, gbr_get hi, gbr_get hj] at h9
    rw [h9]
    rfl

end Go.Proofs.YtbgdglcnminbaaaGreat
