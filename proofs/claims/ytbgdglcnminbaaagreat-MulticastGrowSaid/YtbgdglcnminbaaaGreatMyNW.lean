/- Layer 35, the reference, plain: what find says of the times of a tree. · Layer 35, the reference, plain: the branches appended with parent = the last one are those of Grow. · Layer 35, the reference, plain: the times in the rounds, without the earliest times. · Layer 35, the reference, plain: a member's round of the reference's Grow, against the tree that Grow returns. -/
import Derived.Test.YtbgdglcnminbaaaGreatMzAB
import Derived.Test.YtbgdglcnminbaaaGreatMyPl
import Derived.Test.YtbgdglcnminbaaaGreatMyAC
namespace Go.Proofs.YtbgdglcnminbaaaGreat
set_option linter.unusedVariables false
set_option linter.unusedSimpArgs false
open Go.RowKit

theorem fnd_tree {p : Pln} {q : Req} {s : List Br × List Int} (hT : TI p q s) {n : Int} (n0 : 0 ≤ n) (n1 : n < 16) :
    (n = q.src ∧ p.fnd q s.1 n = -1 ∧ gi s.2 n = q.ready) ∨ (∃ j, j < s.1.length ∧ p.fnd q s.1 n = (j : Int) ∧ n = p.nd s.1 j ∧ gi s.2 n = (gbr s.1 j).arr ∧ 0 ≤ gi s.2 n) ∨ (p.fnd q s.1 n = -2 ∧ gi s.2 n = -1) := by
  have V := hT.vt
  have hiff := fnd_iff V n0 n1
  rw [← hT.at_] at hiff
  by_cases e : n = q.src
  · left
    refine ⟨e, ?_, ?_⟩
    · unfold Pln.fnd; rw [if_pos e]
    · rw [hT.at_, e]; exact mAt_src V _ (Nat.le_refl _)
  · right
    by_cases hg : 0 ≤ gi s.2 n
    · left
      rcases hT.node n0 n1 hg with ⟨h1, _⟩ | ⟨j, hj, hn, ha⟩
      · exact absurd h1 e
      · refine ⟨j, hj, ?_, hn, ha, hg⟩
        unfold Pln.fnd
        rw [if_neg e, hn, lead_at V hj, if_neg (by omega)]
    · right
      refine ⟨?_, ?_⟩
      · apply Classical.byContradiction
        intro h
        exact hg (hiff.2 h)
      · rw [hT.at_]
        refine mAt_none V _ (Nat.le_refl _) n n0 n1 e (fun j hj e2 => ?_)
        have h6 := mAt_nd V _ (Nat.le_refl _) j hj
        rw [← e2, ← hT.at_] at h6
        have := (V.br j hj).arr0
        omega
theorem tree_neg {p : Pln} {q : Req} {s : List Br × List Int} (hT : TI p q s) {n : Int} (n0 : 0 ≤ n) (n1 : n < 16) (h : gi s.2 n < 0) : gi s.2 n = -1 := by
  have hr := hT.vt.req
  rcases fnd_tree hT n0 n1 with ⟨_, _, h3⟩ | ⟨j, _, _, _, _, h3⟩ | ⟨_, h3⟩
  · omega
  · omega
  · exact h3
/-- The start list, with the first places filled. -/
def strZ (tree : List Int) (N j : Nat) : List Int := tree.take j ++ List.replicate (N - j) 0
theorem strZ_len {tree : List Int} {N j : Nat} (hj : j ≤ N) (ht : N ≤ tree.length) : (strZ tree N j).length = N := by
  unfold strZ; rw [List.length_append, List.length_take, List.length_replicate]; omega
theorem strZ_set {tree : List Int} {N j : Nat} (hj : j < N) (ht : N ≤ tree.length) : (strZ tree N j).set j (gi tree j) = strZ tree N (j + 1) := by
  have e1 : N - j = (N - (j + 1)) + 1 := by omega
  have hl : (tree.take j).length = j := by rw [List.length_take]; omega
  have eg : gi tree (j : Int) = tree[j]'(by omega) := by
    unfold gi
    rw [Int.toNat_natCast, List.getD_eq_getElem?_getD, List.getElem?_eq_getElem (by omega), Option.getD_some]
  unfold strZ
  rw [e1, List.replicate_succ, List.set_append_right _ _ (by omega), hl, Nat.sub_self, List.set_cons_zero, eg, List.take_succ_eq_append_getElem (by omega), List.append_assoc]
  rfl
theorem strZ_all (tree : List Int) (N : Nat) : strZ tree N N = tree.take N := by
  unfold strZ; rw [Nat.sub_self]; simp

end Go.Proofs.YtbgdglcnminbaaaGreat

namespace Go.Proofs.YtbgdglcnminbaaaGreat
set_option linter.unusedVariables false
set_option linter.unusedSimpArgs false
open Go.RowKit

/-- A branch more, as the reference appends it: the list and the next parent. -/
def refAdd (s : List Br × Int) (h : Hp) : List Br × Int := (s.1 ++ [⟨h.con, h.beg, h.en, h.arr, s.2⟩], (s.1.length : Int))
/-- Where the way back ends. -/
def Pln.wayEnd (p : Pln) (bk : List Bk) (q : Req) (tree T : List Int) : Nat → Int → Int
  | 0, node => node
  | k + 1, node => if gi tree node < 0 then p.wayEnd bk q tree T k (gc p.cons (p.lastH bk q tree T node).con).src else node
/-- Where a node has a time, find and lead say the same. -/
theorem fnd_lead {p : Pln} {q : Req} {s : List Br × List Int} (hT : TI p q s) {n : Int} (n0 : 0 ≤ n) (n1 : n < 16) (h : 0 ≤ gi s.2 n) : p.fnd q s.1 n = p.lead s.1 n := by
  have V := hT.vt
  rcases fnd_tree hT n0 n1 with ⟨h1, h2, _⟩ | ⟨j, hj, h2, hn, _⟩ | ⟨_, h2⟩
  · rw [h2, h1, lead_src V]
  · rw [h2, hn, lead_at V hj]
  · omega
theorem way_ref {p : Pln} {bk : List Bk} {q : Req} {T : List Int} {s : List Br × List Int} (G : GC p bk q) (hT : TI p q s) (hE : p.EarlP bk q s.2 T) : ∀ (k : Nat) {node : Int}, 0 ≤ node → node < 16 → 0 ≤ gi T node → rank T (gi T node) < k →
    (p.wayF bk q s.2 T k node).reverse.foldl refAdd (s.1, p.fnd q s.1 (p.wayEnd bk q s.2 T k node)) = (((p.wayF bk q s.2 T k node).reverse.foldl p.addB s).1, p.fnd q ((p.wayF bk q s.2 T k node).reverse.foldl p.addB s).1 node)
  | 0, node, _, _, _, hk => by omega
  | k + 1, node, h0, h1, h2, hk => by
    have hsl := hT.len
    have hTl := EarlP.len hsl hE
    have W := way_p G hT hE (hop_free G s.2 T) (k + 1) h0 h1 h2 hk
    unfold Pln.wayEnd
    by_cases hn : gi s.2 node < 0
    · rw [if_pos hn]
      have hwf : p.wayF bk q s.2 T (k + 1) node = p.lastH bk q s.2 T node :: p.wayF bk q s.2 T k (gc p.cons (p.lastH bk q s.2 T node).con).src := by
        show (if gi s.2 node < 0 then _ else _) = _
        rw [if_pos hn]
      rw [hwf] at W ⊢
      rw [List.reverse_cons, List.foldl_append] at W ⊢
      rw [List.foldl_append]
      have ws := way_step G hsl hE h0 h1 hn h2
      have hrk : rank T (gi T (gc p.cons (p.lastH bk q s.2 T node).con).src) < k := by
        have := rank_step hTl ws.s0 ws.s1 ws.t0 ws.t1
        omega
      have ih := way_ref G hT hE k ws.s0 ws.s1 ws.t0 hrk
      have ihW := way_p G hT hE (hop_free G s.2 T) k ws.s0 ws.s1 ws.t0 hrk
      rw [ih]
      generalize hu : (p.wayF bk q s.2 T k (gc p.cons (p.lastH bk q s.2 T node).con).src).reverse.foldl p.addB s = u at ihW W ⊢
      have hs0 := ws.s0
      have hs1 := ws.s1
      have ht0 := ws.t0
      clear ws hu ih
      generalize p.lastH bk q s.2 T node = x at *
      have hfl := fnd_lead ihW.ti hs0 hs1 (by rw [ihW.at_]; exact ht0)
      show refAdd (u.1, p.fnd q u.1 (gc p.cons x.con).src) x = ((p.addB u x).1, p.fnd q (p.addB u x).1 node)
      change WayP p bk q T node s (p.addB u x) at W
      have hf1 : (p.addB u x).1 = u.1 ++ [⟨x.con, x.beg, x.en, x.arr, p.lead u.1 (gc p.cons x.con).src⟩] := rfl
      obtain ⟨hl1, hl2⟩ := W.last hn
      have hlen : (p.addB u x).1.length = u.1.length + 1 := by rw [hf1, List.length_append]; rfl
      have hfn := fnd_lead W.ti h0 h1 (by rw [W.at_]; exact h2)
      have hld : p.lead (p.addB u x).1 node = ((u.1.length : Nat) : Int) := by
        rw [← hl2, lead_at W.ti.vt (by omega), hlen, Nat.add_sub_cancel]
      rw [hfn, hld, hf1]
      unfold refAdd
      rw [hfl]
    · rw [if_neg hn]
      have hwf : p.wayF bk q s.2 T (k + 1) node = [] := by
        show (if gi s.2 node < 0 then _ else _) = _
        rw [if_neg hn]
      rw [hwf]
      rfl

/-- No time passes the deadline. -/
theorem refStep_bd {p : Pln} {bk : List Bk} {q : Req} {tree out : List Int} {M : Int} (hq : q.dead ≤ M) (h : ∀ x ∈ out, x ≤ M) (k : Nat) : ∀ x ∈ p.refStep bk q tree out k, x ≤ M := by
  intro x hx
  unfold Pln.refStep at hx
  split at hx
  · exact h x hx
  · split at hx
    · exact h x hx
    · rename_i y hm
      split at hx
      · obtain ⟨_, _, _, hd⟩ := mhop_some hm
        rcases List.mem_or_eq_of_mem_set hx with hx | rfl
        · exact h x hx
        · omega
      · exact h x hx
theorem refR_bd {p : Pln} {bk : List Bk} {q : Req} {tree out : List Int} {M : Int} (hq : q.dead ≤ M) (h : ∀ x ∈ out, x ≤ M) : ∀ k, ∀ x ∈ p.refR bk q tree out k, x ≤ M
  | 0 => h
  | k + 1 => refStep_bd hq (refR_bd hq h k) k
theorem refIt_bd {p : Pln} {bk : List Bk} {q : Req} {tree : List Int} {M : Int} (hq : q.dead ≤ M) (h : ∀ x ∈ tree, x ≤ M) : ∀ r, ∀ x ∈ p.refIt bk q tree r, x ≤ M
  | 0 => fun x hx => h x (List.mem_of_mem_take hx)
  | r + 1 => refR_bd hq (refIt_bd hq h r) _
theorem tree_bd {p : Pln} {q : Req} {s : List Br × List Int} (hT : TI p q s) {M : Int} (hq : q.dead ≤ M) (hq2 : q.ready ≤ M) (hM : 0 ≤ M) : ∀ x ∈ s.2, x ≤ M := by
  intro x hx
  obtain ⟨i, hi, rfl⟩ := List.mem_iff_getElem.1 hx
  have hl := hT.len
  have eg : gi s.2 (i : Int) = s.2[i] := by
    unfold gi
    rw [Int.toNat_natCast, List.getD_eq_getElem?_getD, List.getElem?_eq_getElem hi, Option.getD_some]
  rw [← eg]
  rcases fnd_tree hT (n := (i : Int)) (by omega) (by omega) with ⟨_, _, h3⟩ | ⟨j, hj, _, _, h3, _⟩ | ⟨_, h3⟩
  · omega
  · have := (hT.vt.br j hj).dead; omega
  · omega

end Go.Proofs.YtbgdglcnminbaaaGreat

namespace Go.Proofs.YtbgdglcnminbaaaGreat
set_option linter.unusedVariables false
set_option linter.unusedSimpArgs false
open Go.RowKit

theorem mhop_pos {p : Pln} {bk : List Bk} {q : Req} (G : GC p bk q) {k : Nat} (hk : k < p.cons.length) {t : Int} {h : Hp} (hm : p.mhop bk q k t = some h) : 0 ≤ h.arr := by
  obtain ⟨b, hb, hh, _⟩ := mhop_some hm
  have hd := G.dur hk
  have hr := (G.con hk).1.rng0
  rw [← first_fit G.bk hd] at hb
  obtain ⟨x, hx, hb2, _⟩ := firstL_bd hb
  have := gapsL_in G.bk hk x hx
  have ha : h.arr = b + (gc p.cons (k : Int)).dur q.size + (gc p.cons (k : Int)).rng := by rw [hh]; rfl
  omega
/-- A time, or none. -/
def OkT (A : List Int) : Prop := ∀ x ∈ A, x = -1 ∨ 0 ≤ x
theorem OkT.gi {A : List Int} (h : OkT A) {n : Int} (hn : n.toNat < A.length) : gi A n = -1 ∨ 0 ≤ gi A n := h _ (gi_mem hn)
theorem refStep_ok {p : Pln} {bk : List Bk} {q : Req} {tree out : List Int} (G : GC p bk q) (h : OkT out) {k : Nat} (hk : k < p.cons.length) : OkT (p.refStep bk q tree out k) := by
  intro x hx
  unfold Pln.refStep at hx
  split at hx
  · exact h x hx
  · split at hx
    · exact h x hx
    · rename_i y hm
      split at hx
      · rcases List.mem_or_eq_of_mem_set hx with hx | rfl
        · exact h x hx
        · exact .inr (mhop_pos G hk hm)
      · exact h x hx
theorem refR_ok {p : Pln} {bk : List Bk} {q : Req} {tree out : List Int} (G : GC p bk q) (h : OkT out) : ∀ k, k ≤ p.cons.length → OkT (p.refR bk q tree out k)
  | 0, _ => h
  | k + 1, hk => refStep_ok G (refR_ok G h k (by omega)) (by omega)
theorem refIt_ok {p : Pln} {bk : List Bk} {q : Req} {tree : List Int} (G : GC p bk q) (h : OkT tree) : ∀ r, OkT (p.refIt bk q tree r)
  | 0 => fun x hx => h x (List.mem_of_mem_take hx)
  | r + 1 => refR_ok G (refIt_ok G h r) _ (Nat.le_refl _)
theorem refStep_tr {p : Pln} {bk : List Bk} {q : Req} {tree out : List Int} (G : GC p bk q) (hl : out.length = p.quo.length) {n : Int} (n0 : 0 ≤ n) (hn : 0 ≤ gi tree n) {k : Nat} (hk : k < p.cons.length) : gi (p.refStep bk q tree out k) n = gi out n := by
  have hc := G.con hk
  have hd0 := hc.1.dst0
  unfold Pln.refStep
  split
  · rfl
  · rename_i h1
    split
    · rfl
    · split
      · rw [gi_setN hd0 (by omega) n0, if_neg (by intro e; rw [e] at hn; omega)]
      · rfl
theorem refR_tr {p : Pln} {bk : List Bk} {q : Req} {tree out : List Int} (G : GC p bk q) (hl : out.length = p.quo.length) {n : Int} (n0 : 0 ≤ n) (hn : 0 ≤ gi tree n) : ∀ k, k ≤ p.cons.length → gi (p.refR bk q tree out k) n = gi out n
  | 0, _ => rfl
  | k + 1, hk => (refStep_tr G (by rw [refR_len]; exact hl) n0 hn (by omega)).trans (refR_tr G hl n0 hn k (by omega))
/-- A node of the tree keeps its time. -/
theorem refIt_tr {p : Pln} {bk : List Bk} {q : Req} {tree : List Int} (G : GC p bk q) (ht : tree.length = 16) {n : Int} (n0 : 0 ≤ n) (n1 : n < p.quo.length) (hn : 0 ≤ gi tree n) : ∀ r, gi (p.refIt bk q tree r) n = gi tree n
  | 0 => gi_take n0 n1
  | r + 1 => (refR_tr G (refIt_len (by have := G.n16; omega) r) n0 hn _ (Nat.le_refl _)).trans (refIt_tr G ht n0 n1 hn r)
theorem tree_ok {p : Pln} {q : Req} {s : List Br × List Int} (hT : TI p q s) : OkT s.2 := by
  intro x hx
  obtain ⟨i, hi, rfl⟩ := List.mem_iff_getElem.1 hx
  have hl := hT.len
  have eg : gi s.2 (i : Int) = s.2[i] := by
    unfold gi
    rw [Int.toNat_natCast, List.getD_eq_getElem?_getD, List.getElem?_eq_getElem hi, Option.getD_some]
  rw [← eg]
  by_cases h : gi s.2 (i : Int) < 0
  · exact .inl (tree_neg hT (by omega) (by omega) h)
  · exact .inr (by omega)

end Go.Proofs.YtbgdglcnminbaaaGreat

namespace Go.Proofs.YtbgdglcnminbaaaGreat
set_option linter.unusedVariables false
set_option linter.unusedSimpArgs false
open Go.RowKit

/-- Where the way back from a member stands. -/
structure WyI (p : Pln) (bk : List Bk) (q : Req) (tree T A H : List Int) (hs : List Hp) (e : Int) (k : Nat) (node : Int) (done : List Hp) : Prop where
  n0 : 0 ≤ node
  n1 : node < p.quo.length
  all : done ++ p.wayF bk q tree T k node = hs
  en : p.wayEnd bk q tree T k node = e
  len : tree.length = 16
  hE : gi tree node < 0 → p.EarlP bk q tree T ∧ (∀ n : Int, 0 ≤ n → n < p.quo.length → (0 ≤ gi T n → gi A n = gi T n) ∧ (gi T n < 0 → gi A n = -1)) ∧ 0 ≤ gi T node ∧ rank T (gi T node) < k
theorem WyI.step {p : Pln} {bk : List Bk} {q : Req} {tree T A H : List Int} {hs : List Hp} {e : Int} {k : Nat} {node : Int} {done : List Hp} (G : GC p bk q) (h : WyI p bk q tree T A H hs e k node done) (hn : gi tree node < 0) :
    ∃ k' d, k = k' + 1 ∧ p.rlast bk q A node p.cons.length = some d ∧ InC p d ∧ WyI p bk q tree T A H hs e k' (gc p.cons d.con).src (done ++ [d]) := by
  obtain ⟨hE, hA, hT, hk⟩ := h.hE hn
  have n0 := h.n0
  have n1 := h.n1
  have hn16 := G.n16
  have hl := rlast_lastH G h.len hE hA n0 n1 hn hT
  have ws := way_step G h.len hE n0 (by omega) hn hT
  obtain ⟨k', rfl⟩ : ∃ k', k = k' + 1 := ⟨k - 1, by omega⟩
  have h1 := h.all
  have h2 := h.en
  unfold Pln.wayF at h1
  unfold Pln.wayEnd at h2
  rw [if_pos hn] at h1 h2
  have hrk := rank_step (EarlP.len h.len hE) ws.s0 ws.s1 ws.t0 ws.t1
  obtain ⟨i, f⟩ := HopP.facts ws.hop
  have hc := G.con f.lt
  rw [← f.con] at hc
  exact ⟨k', _, rfl, hl, ws.inc, ⟨ws.s0, hc.2.1, by rw [List.append_assoc]; exact h1, h2, h.len, fun _ => ⟨hE, hA, ws.t0, by omega⟩⟩⟩
theorem WyI.done {p : Pln} {bk : List Bk} {q : Req} {tree T A H : List Int} {hs : List Hp} {e : Int} {k : Nat} {node : Int} {done : List Hp} (h : WyI p bk q tree T A H hs e k node done) (hn : ¬ gi tree node < 0) : done = hs ∧ node = e := by
  have h1 := h.all
  have h2 := h.en
  cases k with
  | zero => exact ⟨by rw [← h1]; show done = done ++ []; rw [List.append_nil], h2⟩
  | succ k =>
    unfold Pln.wayF at h1
    unfold Pln.wayEnd at h2
    rw [if_neg hn] at h1 h2
    exact ⟨by rw [← h1, List.append_nil], h2⟩
theorem wayF_len {p : Pln} {bk : List Bk} {q : Req} {tree T : List Int} : ∀ (k : Nat) (node : Int), (p.wayF bk q tree T k node).length ≤ k
  | 0, _ => Nat.le_refl _
  | k + 1, node => by
    unfold Pln.wayF
    split
    · rw [List.length_cons]; have := wayF_len (p := p) (bk := bk) (q := q) (tree := tree) (T := T) k (gc p.cons (p.lastH bk q tree T node).con).src; omega
    · exact Nat.zero_le _
/-- A member's round. -/
theorem grow_round {p : Pln} {bk : List Bk} {q : Req} {s : List Br × List Int} {m : Int} {ms : List Int} {r : Option (List Br × List Int)} (G : GC p bk q) (hT : TI p q s) (n0 : 0 ≤ m) (n1 : m < p.quo.length) (hr : p.GrowR bk q (m :: ms) s r) :
    (gi (p.refIt bk q s.2 p.quo.length) m = -1 ∧ r = none) ∨ ∃ T hs e s', 0 ≤ gi (p.refIt bk q s.2 p.quo.length) m ∧ hs.length ≤ 17 ∧ WyI p bk q s.2 T (p.refIt bk q s.2 p.quo.length) [] hs e 17 m [] ∧ TI p q s' ∧ p.GrowR bk q ms s' r ∧
      hs.reverse.foldl refAdd (s.1, p.fnd q s.1 e) = (s'.1, p.fnd q s'.1 m) ∧ (∀ x, 0 ≤ x → x < 16 → 0 ≤ gi s.2 x → gi s'.2 x = gi s.2 x) ∧ gi s'.2 m = gi (p.refIt bk q s.2 p.quo.length) m := by
  have hn16 := G.n16
  have hl := hT.len
  by_cases hg : 0 ≤ gi s.2 m
  · have htr := refIt_tr G hl n0 n1 hg p.quo.length
    unfold Pln.GrowR at hr
    rw [if_pos hg] at hr
    right
    refine ⟨[], [], m, s, by rw [htr]; exact hg, by simp, ⟨n0, n1, ?_, ?_, hl, fun h => by omega⟩, hT, hr, rfl, fun _ _ _ _ => rfl, htr.symm⟩
    · unfold Pln.wayF; rw [if_neg (by omega)]; rfl
    · unfold Pln.wayEnd; rw [if_neg (by omega)]
  · unfold Pln.GrowR at hr
    rw [if_neg hg] at hr
    obtain ⟨T, hE, hr⟩ := hr
    have hA := (ref_times G hl hE (fun n h0 h1 h2 => tree_neg hT h0 (by omega) h2)).2
    by_cases ht : gi T m < 0
    · rw [if_pos ht] at hr
      exact .inl ⟨(hA m n0 n1).2 ht, hr⟩
    · rw [if_neg ht] at hr
      have ht0 : 0 ≤ gi T m := by omega
      have hrk : rank T (gi T m) < 17 := by have := rank16 (EarlP.len hl hE) n0 (show m < 16 by omega); omega
      have hw := way_ref G hT hE 17 n0 (by omega) ht0 hrk
      have hp := way_p G hT hE (hop_free G s.2 T) 17 n0 (by omega) ht0 hrk
      have ha := (hA m n0 n1).1 ht0
      right
      exact ⟨T, _, _, _, by rw [ha]; exact ht0, wayF_len 17 m, ⟨n0, n1, rfl, rfl, hl, fun _ => ⟨hE, hA, ht0, hrk⟩⟩, hp.ti, hr, hw, hp.old, by rw [hp.at_, ha]⟩

/-- The branches that a member adds, one after the other. -/
def addK (hs : List Hp) (s : List Br × Int) (j : Nat) : List Br × Int := (hs.reverse.take j).foldl refAdd s
theorem addK_zero (hs : List Hp) (s : List Br × Int) : addK hs s 0 = s := rfl
theorem addK_all (hs : List Hp) (s : List Br × Int) : addK hs s hs.length = hs.reverse.foldl refAdd s := by
  unfold addK
  rw [List.take_of_length_le (by simp)]
theorem addK_succ {hs : List Hp} {s : List Br × Int} {j g : Nat} (h : g + 1 + j = hs.length) : addK hs s (j + 1) = refAdd (addK hs s j) (hs[g]'(by omega)) := by
  obtain rfl : g = hs.length - 1 - j := by omega
  unfold addK
  rw [take_snoc (k := j) (by rw [List.length_reverse]; omega) (List.getElem_reverse (by rw [List.length_reverse]; omega)), List.foldl_append]
  rfl
theorem refAdd_fold_len : ∀ (m : List Hp) (s : List Br × Int), (m.foldl refAdd s).1.length = s.1.length + m.length
  | [], s => rfl
  | h :: m, s => by
    have h1 := refAdd_fold_len m (refAdd s h)
    rw [List.foldl_cons, h1, List.length_cons]
    show (s.1 ++ [_]).length + _ = _
    rw [List.length_append, List.length_singleton]
    omega
theorem addK_len {hs : List Hp} {s : List Br × Int} {j : Nat} (h : j ≤ hs.length) : (addK hs s j).1.length = s.1.length + j := by
  unfold addK
  rw [refAdd_fold_len, List.length_take, List.length_reverse]
  omega

end Go.Proofs.YtbgdglcnminbaaaGreat
