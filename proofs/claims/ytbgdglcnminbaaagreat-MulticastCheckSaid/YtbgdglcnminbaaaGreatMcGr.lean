/- Layer 35 (multicast): the hops of Grow are free of bookings; what Grow returns, plain. -/
import Derived.Test.YtbgdglcnminbaaaGreatMcGq
namespace Go.Proofs.YtbgdglcnminbaaaGreat
set_option linter.unusedVariables false
open Go.RowKit

theorem bkErr_at {p : Pln} {l : List Bk} : ∀ {n : Nat}, p.bkErr l n = 0 → ∀ k, k < n → p.bkAt l k = 0
  | 0, _, k, h => by omega
  | n + 1, h, k, hk => by
    have h2 : p.bkErr l (n + 1) = if p.bkErr l n = 0 then p.bkAt l n else p.bkErr l n := rfl
    rw [h2] at h
    split at h
    · rename_i h0
      by_cases e : k = n
      · subst e; exact h
      · exact bkErr_at h0 k (by omega)
    · rename_i h0; exact absurd h h0
theorem bkChk_err {p : Pln} {l : List Bk} (h : p.bkChk l = 0) : p.bkErr l l.length = 0 := by
  unfold Pln.bkChk at h
  split at h
  · split at h
    · cases h
    · exact h
  · cases h
theorem bk_adj {p : Pln} {l : List Bk} (h : p.bkChk l = 0) {k : Nat} (hk : k + 1 < l.length) : (gbk l k).con < (gbk l (k + 1)).con ∨ ((gbk l k).con = (gbk l (k + 1)).con ∧ (gbk l k).en ≤ (gbk l (k + 1)).beg) := by
  have h1 := bkErr_at (bkChk_err h) (k + 1) hk
  unfold Pln.bkAt at h1
  rw [Nat.add_sub_cancel] at h1
  generalize gbk l k = a at *
  generalize gbk l (k + 1) = b at *
  split at h1
  · cases h1
  · rw [if_neg (by omega)] at h1
    split at h1
    · cases h1
    · rename_i h2
      split at h1
      · cases h1
      · rename_i h3
        by_cases e1 : a.con < b.con
        · exact .inl e1
        · by_cases e2 : b.con < a.con
          · exfalso
            apply h2
            unfold bkCmp orL cmpI
            rw [if_neg e1, if_pos e2, if_neg (by omega)]
            omega
          · have e3 : a.con = b.con := by omega
            right
            refine ⟨e3, ?_⟩
            apply Classical.byContradiction
            intro hn
            exact h3 ⟨e3, by omega⟩
theorem bk_pair {p : Pln} {l : List Bk} (h : p.bkChk l = 0) {j : Nat} : ∀ (d : Nat) (_ : j + 1 + d < l.length), (gbk l j).con ≤ (gbk l (j + 1 + d)).con ∧ ((gbk l j).con = (gbk l (j + 1 + d)).con → (gbk l j).en ≤ (gbk l (j + 1 + d)).beg)
  | 0, hk => by
    have e := bk_adj h (k := j) hk
    show (gbk l j).con ≤ (gbk l (j + 1)).con ∧ ((gbk l j).con = (gbk l (j + 1)).con → (gbk l j).en ≤ (gbk l (j + 1)).beg)
    rcases e with e | e
    · exact ⟨by omega, fun e2 => by omega⟩
    · exact ⟨by omega, fun _ => e.2⟩
  | d + 1, hk => by
    have ih := bk_pair h (j := j) d (by omega)
    have ha := bk_adj h (k := j + 1 + d) (by omega)
    have hv := of_decide_eq_true ((Pln.bkChk_ok h).2.2 _ (List.getElem_mem (show j + 1 + d < l.length by omega)))
    rw [← gbk_get (show j + 1 + d < l.length by omega)] at hv
    show (gbk l j).con ≤ (gbk l (j + 1 + d + 1)).con ∧ ((gbk l j).con = (gbk l (j + 1 + d + 1)).con → (gbk l j).en ≤ (gbk l (j + 1 + d + 1)).beg)
    rcases ha with e | e
    · exact ⟨by omega, fun e2 => by omega⟩
    · exact ⟨by omega, fun e2 => by have := ih.2 (by omega); omega⟩
theorem bk_pw {p : Pln} {l : List Bk} (h : p.bkChk l = 0) : l.Pairwise (fun x y => x.con = y.con → x.en ≤ y.beg) := by
  rw [List.pairwise_iff_getElem]
  intro i j hi hj hij
  have := (bk_pair h (j := i) (j - (i + 1)) (by omega)).2
  rw [show i + 1 + (j - (i + 1)) = j by omega, gbk_get hi, gbk_get hj] at this
  exact this
theorem fit_free {n en i : Int} (hn : 1 ≤ n) : ∀ (bk : List Bk) (a b : Int), bk.Pairwise (fun x y => x.con = y.con → x.en ≤ y.beg) → (∀ x ∈ bk, x.beg < x.en) → fitW n en a (busyL bk i) = some b → ∀ x ∈ bk, x.con = i → ¬ (x.beg < b + n ∧ b < x.en)
  | [], _, _, _, _, _, x, hx, _ => by cases hx
  | y :: bk, a, b, hp, hb, hf, x, hx, hc => by
    have hp2 := List.pairwise_cons.1 hp
    have hb2 := fun z hz => hb z (List.mem_cons_of_mem _ hz)
    by_cases hy : y.con = i
    · have e : busyL (y :: bk) i = ⟨y.beg, y.en⟩ :: busyL bk i := by unfold busyL; rw [List.filter_cons, if_pos (by simpa using hy), List.map_cons]
      rw [e] at hf
      unfold fitW at hf
      split at hf
      · rename_i h1
        injection hf with hf
        subst hf
        dsimp only at h1
        rcases List.mem_cons.1 hx with rfl | hx
        · omega
        · have h2 := hp2.1 x hx (by omega)
          have h3 := hb y (List.mem_cons_self ..)
          omega
      · rcases List.mem_cons.1 hx with rfl | hx
        · have := fitW_ge hf
          dsimp only at this
          omega
        · exact fit_free hn bk _ b hp2.2 hb2 hf x hx hc
    · have e : busyL (y :: bk) i = busyL bk i := by unfold busyL; rw [List.filter_cons, if_neg (by simpa using hy)]
      rw [e] at hf
      rcases List.mem_cons.1 hx with rfl | hx
      · exact absurd hc hy
      · exact fit_free hn bk a b hp2.2 hb2 hf x hx hc
theorem hop_free {p : Pln} {bk : List Bk} {q : Req} (G : GC p bk q) (tree T : List Int) (h : Hp) (hp : p.HopP bk q tree T h) : FreeH bk h.con h.beg h.en := by
  obtain ⟨i, f⟩ := HopP.facts hp
  obtain ⟨b, hb, hh⟩ := f.fit
  have hd := G.dur f.lt
  rw [fit_is hd] at hb
  have hv : ∀ x ∈ bk, x.beg < x.en := fun x hx => by
    have := of_decide_eq_true ((Pln.bkChk_ok G.bk).2.2 x hx)
    omega
  have key := fit_free hd bk _ b (bk_pw G.bk) hv hb
  subst hh
  exact key

/-- What is known of the tree that Grow returns. -/
structure GrownP (p : Pln) (bk : List Bk) (q : Req) (mem : List Int) (t : List Br × List Int) : Prop where
  gi_ : GI p bk q mem t
  chk : p.mchk q mem t.1 = 0
  prune : p.prune t.1 mem = t.1
  times : ∀ x, gi (p.mAt q t.1 t.1.length) x = gi t.2 x
theorem grown {p : Pln} {bk : List Bk} {q : Req} {mem : List Int} {t : List Br × List Int} (G : GC p bk q) (hf : fineR p q = true) (hm : memsB p.quo.length q.src mem = true) (h : p.GrowR bk q mem ([], startL q) (some t)) : GrownP p bk q mem t := by
  have hn := G.n16
  have hI := (GI.grow G (hop_free G) mem [] _ t (GI.start hf) (fun m hm2 => by have := memsB_in hm hm2; omega) h).1
  rw [List.nil_append] at hI
  have ht : ∀ x, gi (p.mAt q t.1 t.1.length) x = gi t.2 x := fun x => by rw [hI.ti.at_]
  have V := hI.ti.vt
  have hbr : ∀ k, k < t.1.length → p.brE q t.1 k (p.mAt q t.1 k) = 0 := fun k hk => by
    have b := V.br k hk
    exact brE_of b.con0 b.con1 b.par0 b.par1 b.root b.next b.new b.at0 b.en b.arr b.dead
  have hall : ∀ j, j < t.1.length → (p.nee t.1 mem).getD j false = true := fun j hj => (nee_iff V).2 (hI.need j hj)
  refine ⟨hI, mchk_of hf hm V.len (mErr_of hbr) (fun m hm2 => by rw [ht]; exact hI.mem m hm2), ?_, ht⟩
  have h8 := (prS_all V hall _ (Nat.le_refl _)).1
  rw [List.take_length] at h8
  exact h8
/-- The tree for the first members. -/
theorem growR_pre {p : Pln} {bk : List Bk} {q : Req} {a b : List Int} {t : List Br × List Int} (G : GC p bk q) (hf : fineR p q = true) (hm : memsB p.quo.length q.src (a ++ b) = true) (ht : p.GrowR bk q (a ++ b) ([], startL q) (some t)) {r : Option (List Br × List Int)} (hr : p.GrowR bk q a ([], startL q) r) :
    ∃ u, r = some u ∧ (∃ e, t.1 = u.1 ++ e) ∧ ∀ m ∈ a, gi u.2 m = gi t.2 m := by
  have hn := G.n16
  obtain ⟨u, h1, h2⟩ := growR_app b a _ ht
  have hru := growR_det G a _ r (some u) (startL_len q) hr h1
  have hrng : ∀ m ∈ a ++ b, 0 ≤ m ∧ m < 16 := fun m hm2 => by have := memsB_in hm hm2; omega
  have g1 := (GI.grow G (hop_free G) a [] _ u (GI.start hf) (fun m hm2 => hrng m (List.mem_append_left _ hm2)) h1).1
  obtain ⟨_, g2, g3⟩ := GI.grow G (hop_free G) b _ u t g1 (fun m hm2 => hrng m (List.mem_append_right _ hm2)) h2
  refine ⟨u, hru, g2, fun m hm2 => ?_⟩
  have h4 := hrng m (List.mem_append_left _ hm2)
  exact (g3 m h4.1 h4.2 (g1.mem m hm2)).symm

end Go.Proofs.YtbgdglcnminbaaaGreat
