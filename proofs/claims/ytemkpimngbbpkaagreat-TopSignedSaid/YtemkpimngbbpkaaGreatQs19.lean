/- Layer 35 (multicast): plain laws of earliest and of the way. · Layer 35 (multicast): Grow, plain. · Layer 35 (multicast): the members. · Layer 35 (multicast): the walk of Grow. · A region that draws its order and holds a call and a store, inside a round of a range over a function: by one condition on the world. · Layer 35 (multicast): words for the walk of Grow. -/
import Derived.Deep.RegionHeld3
import Derived.RangeFuncCalls
import Derived.Test.YtemkpimngbbpkaaGreatQs03
import Derived.Test.YtemkpimngbbpkaaGreatQs04
import Derived.Test.YtemkpimngbbpkaaGreatQs10
import Derived.Test.YtemkpimngbbpkaaGreatQs17
import Derived.Test.YtemkpimngbbpkaaGreatQs18
namespace Go.Proofs.YtemkpimngbbpkaaGreat
set_option linter.unusedVariables false
set_option linter.unusedSimpArgs false
section
open Go.RowKit
def fitW (n en : Int) : Int -> List Spn -> Option Int
 | a, [] => if a < en /\ n <= en - a then some a else none
 | a, x :: m => if a < x.fr /\ n <= x.fr - a then some a else fitW n en (max a x.til) m
theorem fitL_append {n : Int} : ∀ (l m : List Spn), fitL n (l ++ m) = match fitL n l with | some b => some b | none => fitL n m
 | [], m => rfl
 | x :: l, m => by
   rw [List.cons_append]
   show (if n <= x.til - x.fr then some x.fr else fitL n (l ++ m)) = match (if n <= x.til - x.fr then some x.fr else fitL n l) with | some b => some b | none => fitL n m
   split
   ·rfl
   ·exact fitL_append l m
theorem fitL_addS {n a u : Int} (hn : 1 <= n) (out : List Spn) : fitL n (addS a u out) = match fitL n out with | some b => some b | none => if a < u /\ n <= u - a then some a else none := by
 unfold addS
 split
 ·rename_i h
  rw [fitL_append]
  cases fitL n out with
  | some b => rfl
  | none =>
    show fitL n [_] = if _ then _ else _
    unfold fitL
    by_cases h2 : n <= u - a
    ·rw [if_pos h2, if_pos ⟨h, h2⟩]
    ·rw [if_neg h2, if_neg (fun hh => h2 hh.2)]; rfl
 ·rename_i h
  rw [if_neg (fun hh => h hh.1)]
  cases fitL n out <;> rfl
theorem fit_fold {n en : Int} (hn : 1 <= n) : ∀ (m : List Spn) (a : Int) (out : List Spn), fitL n (addS (m.foldl freeStep (a, out)).1 en (m.foldl freeStep (a, out)).2) = match fitL n out with | some b => some b | none => fitW n en a m
 | [], a, out => by
   rw [List.foldl_nil, fitL_addS hn]; rfl
 | x :: m, a, out => by
   rw [List.foldl_cons]
   show fitL n (addS (m.foldl freeStep (max a x.til, addS a x.fr out)).1 en (m.foldl freeStep (max a x.til, addS a x.fr out)).2) = _
   rw [fit_fold hn m, fitL_addS hn]
   cases fitL n out with
   | some b => rfl
   | none =>
     show (match (if a < x.fr /\ n <= x.fr - a then some a else none : Option Int) with | some b => some b | none => fitW n en (max a x.til) m) = (if a < x.fr /\ n <= x.fr - a then some a else fitW n en (max a x.til) m)
     by_cases hc : a < x.fr /\ n <= x.fr - a
     ·rw [if_pos hc, if_pos hc]
     ·rw [if_neg hc, if_neg hc]
theorem fit_is {n : Int} (hn : 1 <= n) (c : Con) (l : List Bk) (i t : Int) : fitL n (freeL c l i t) = fitW n c.en (max c.st t) (busyL l i) := by
 unfold freeL freeW
 rw [fit_fold hn]; rfl
theorem fitW_ge {n en : Int} : ∀ {m : List Spn} {a b : Int}, fitW n en a m = some b -> a <= b
 | [], a, b, h => by
   unfold fitW at h
   split at h
   ·injection h with h; omega
   ·cases h
 | x :: m, a, b, h => by
   unfold fitW at h
   split at h
   ·injection h with h; omega
   ·have := fitW_ge h; omega
theorem fitW_mono {n en : Int} : ∀ {m : List Spn} {a' a b : Int}, a' <= a -> fitW n en a m = some b -> ∃ b', fitW n en a' m = some b' /\ b' <= b
 | [], a', a, b, ha, h => by
   unfold fitW at h ⊢
   split at h
   ·rename_i hc; injection h with h; exact ⟨a', if_pos (by omega), by omega⟩
   ·cases h
 | x :: m, a', a, b, ha, h => by
   unfold fitW at h ⊢
   split at h
   ·rename_i hc; injection h with h; exact ⟨a', if_pos (by omega), by omega⟩
   ·split
    ·exact ⟨a', rfl, by have := fitW_ge h; omega⟩
    ·exact fitW_mono (by omega) h
theorem mhop_mono {p : Pln} {l : List Bk} {q : Req} {i : Nat} {t' t : Int} {h : Hp} (hd : 1 <= (gc p.cons i).dur q.size) (ht : t' <= t) (e : p.mhop l q i t = some h) : ∃ h', p.mhop l q i t' = some h' /\ h'.arr <= h.arr := by
 obtain ⟨b, hb, hh, hdl⟩ := mhop_some e
 rw [fit_is hd] at hb
 obtain ⟨b', hb', hle⟩ := fitW_mono (a' := max (gc p.cons i).st t') (by omega) hb
 subst hh
 simp only [hpAt] at hdl ⊢
 refine ⟨hpAt (gc p.cons i) i q.size b', ?_, by simp only [hpAt]; omega⟩
 unfold Pln.mhop
 rw [fit_is hd, hb']
 exact if_pos (by omega)
structure GC (p : Pln) (l : List Bk) (q : Req) : Prop where
 bk : p.bkChk l = 0
 q1 : 1 <= q.size
 q2 : q.size <= 65536
theorem GC.con {p : Pln} {l : List Bk} {q : Req} (G : GC p l q) {i : Nat} (hi : i < p.cons.length) : (gc p.cons (i : Int)).Ok /\ (gc p.cons (i : Int)).src < p.quo.length /\ (gc p.cons (i : Int)).dst < p.quo.length := by
 have hok := Pln.ok_of (Pln.bkChk_ok G.bk).1
 have hgc : gc p.cons (i : Int) = p.cons[i] := gc_get (i := (i : Int)) (by omega)
 rw [hgc]
 exact hok.con _ (List.getElem_mem hi)
theorem GC.dur {p : Pln} {l : List Bk} {q : Req} (G : GC p l q) {i : Nat} (hi : i < p.cons.length) : 1 <= (gc p.cons (i : Int)).dur q.size := (Con.dur_bd (G.con hi).1 G.q1 G.q2).1
theorem GC.n16 {p : Pln} {l : List Bk} {q : Req} (G : GC p l q) : p.quo.length <= 16 := (Pln.ok_of (Pln.bkChk_ok G.bk).1).n16
def ESup (p : Pln) (l : List Bk) (q : Req) (tree at_ : List Int) : Prop := ∀ n : Int, 0 <= n -> n < 16 -> gi tree n < 0 -> 0 <= gi at_ n ->
 ∃ i h, i < p.cons.length /\ (gc p.cons (i : Int)).dst = n /\ 0 <= gi at_ (gc p.cons (i : Int)).src /\ p.mhop l q i (gi at_ (gc p.cons (i : Int)).src) = some h /\ h.arr <= gi at_ n
structure EInv (p : Pln) (l : List Bk) (q : Req) (tree at0 at_ : List Int) : Prop where
 len : at_.length = 16
 le : ∀ n : Int, 0 <= n -> n < 16 -> 0 <= gi at0 n -> 0 <= gi at_ n /\ gi at_ n <= gi at0 n
 sup : ESup p l q tree at_
 tr : ∀ n : Int, 0 <= n -> n < 16 -> 0 <= gi tree n -> gi at_ n = gi tree n
theorem gi_set16 {m : List Int} (h : m.length = 16) {i j v : Int} (hi : 0 <= i) (hi2 : i < 16) (hj : 0 <= j) : gi (m.set i.toNat v) j = if j = i then v else gi m j := by
 rw [gi_set (by omega)]
 by_cases e : j = i
 ·subst e; rw [if_pos rfl, if_pos rfl]
 ·rw [if_neg (by omega), if_neg e]
theorem EInv.step {p : Pln} {l : List Bk} {q : Req} {tree at0 : List Int} {s : Bool × List Int} {h : Hp} (G : GC p l q) (hI : EInv p l q tree at0 s.2) (hp : p.HopP l q tree at0 h) : EInv p l q tree at0 (p.eStep s h).2 := by
 obtain ⟨i, f⟩ := HopP.facts hp
 have hlt := f.lt
 have hc := G.con hlt
 have hn := G.n16
 have hl := f.late G.bk ⟨G.q1, G.q2⟩
 have hd0 := hc.1.dst0
 have hs0 := hc.1.src0
 have hne := hc.1.ne
 have hm : p.mhop l q i (gi at0 (gc p.cons (i : Int)).src) = some h := by
  obtain ⟨i', hi', e⟩ := hp
  unfold Pln.hopI at e
  split at e
  ·cases e
  ·obtain ⟨b, _, hh, _⟩ := mhop_some e
   have : (i' : Int) = i := by have := f.con; rw [hh] at this; exact this
   have : i' = i := by omega
   subst this
   exact e
 have hsle := hI.le _ hs0 (by omega) f.src
 unfold Pln.eStep
 rw [f.con]
 split
 ·rename_i hup
  have hset := fun j hj => gi_set16 (v := h.arr) hI.len hd0 (by omega : (gc p.cons (i : Int)).dst < 16) (j := j) hj
  have hdown : ∀ n : Int, 0 <= n -> 0 <= gi s.2 n -> 0 <= gi (s.2.set (gc p.cons (i : Int)).dst.toNat h.arr) n /\ gi (s.2.set (gc p.cons (i : Int)).dst.toNat h.arr) n <= gi s.2 n := fun n h0 h1 => by
   rw [hset n h0]
   split
   ·rename_i e; subst e; omega
   ·exact ⟨h1, Int.le_refl _⟩
  refine ⟨by simp [hI.len], fun n h0 h1 h2 => ?_, fun n h0 h1 h2 h3 => ?_, fun n h0 h1 h2 => ?_⟩
  ·have a := hI.le n h0 h1 h2
   have b := hdown n h0 a.1
   exact ⟨b.1, Int.le_trans b.2 a.2⟩
  ·by_cases e : n = (gc p.cons (i : Int)).dst
   ·subst e
    obtain ⟨h', e1, e2⟩ := mhop_mono (G.dur hlt) hsle.2 hm
    refine ⟨i, h', hlt, rfl, ?_, ?_, ?_⟩
    ·rw [hset _ hs0, if_neg hne]; exact hsle.1
    ·rw [hset _ hs0, if_neg hne]; exact e1
    ·rw [hset _ h0, if_pos rfl]; exact e2
   ·rw [hset n h0, if_neg e] at h3
    obtain ⟨j, h', j1, j2, j3, j4, j5⟩ := hI.sup n h0 h1 h2 h3
    have hj := G.con j1
    have hjs := hj.1.src0
    have hdn := hdown _ hjs j3
    obtain ⟨h2', e1, e2⟩ := mhop_mono (G.dur j1) hdn.2 j4
    refine ⟨j, h2', j1, j2, hdn.1, e1, ?_⟩
    rw [hset n h0, if_neg e]; omega
  ·rw [hset n h0]
   split
   ·rename_i e; subst e; have := f.dst; omega
   ·exact hI.tr n h0 h1 h2
 ·exact hI
theorem EInv.fold {p : Pln} {l : List Bk} {q : Req} {tree at0 : List Int} (G : GC p l q) : ∀ (m : List Hp) (s : Bool × List Int), (∀ h ∈ m, p.HopP l q tree at0 h) -> EInv p l q tree at0 s.2 -> EInv p l q tree at0 (m.foldl p.eStep s).2
 | [], s, _, h => h
 | x :: m, s, hm, h => by
   rw [List.foldl_cons]
   exact EInv.fold G m _ (fun y hy => hm y (by simp [hy])) (h.step G (hm x (by simp)))
theorem eIt_inv {p : Pln} {l : List Bk} {q : Req} {tree : List Int} (G : GC p l q) (ht : tree.length = 16) : ∀ k, ESup p l q tree (p.eIt l q tree k) /\ (∀ n : Int, 0 <= n -> n < 16 -> 0 <= gi tree n -> gi (p.eIt l q tree k) n = gi tree n)
 | 0 => ⟨fun n _ _ h1 h2 => by change 0 <= gi tree n at h2; omega, fun _ _ _ _ => rfl⟩
 | k + 1 => by
   have ih := eIt_inv (p := p) (l := l) (q := q) (tree := tree) G ht k
   have h := EInv.fold (p := p) (l := l) (q := q) (tree := tree) (at0 := p.eIt l q tree k) G (p.hopsL l q tree (p.eIt l q tree k)) (false, p.eIt l q tree k) (fun h hm => hopsK_mem (Nat.le_refl _) hm)
    ⟨by rw [eIt_len]; exact ht, fun _ _ _ h => ⟨h, Int.le_refl _⟩, ih.1, ih.2⟩
   exact ⟨h.sup, h.tr⟩
theorem eFold_true {p : Pln} : ∀ (m : List Hp) (s : Bool × List Int), s.1 = true -> (m.foldl p.eStep s).1 = true
 | [], s, h => h
 | x :: m, s, h => by
   rw [List.foldl_cons]
   exact eFold_true m _ (by unfold Pln.eStep; split; rfl; exact h)
theorem eFold_fix {p : Pln} : ∀ (m : List Hp) (T : List Int), (m.foldl p.eStep (false, T)).1 = false -> ∀ h ∈ m, ¬ (gi T (gc p.cons h.con).dst < 0 ∨ h.arr < gi T (gc p.cons h.con).dst)
 | [], T, _, h, hm => by cases hm
 | x :: m, T, hf, h, hm => by
   rw [List.foldl_cons] at hf
   by_cases hx : gi T (gc p.cons x.con).dst < 0 ∨ x.arr < gi T (gc p.cons x.con).dst
   ·have e : p.eStep (false, T) x = (true, T.set (gc p.cons x.con).dst.toNat x.arr) := by unfold Pln.eStep; rw [if_pos hx]
    rw [e, eFold_true m _ rfl] at hf
    cases hf
   ·have e : p.eStep (false, T) x = (false, T) := by unfold Pln.eStep; rw [if_neg hx]
    rw [e] at hf
    rcases List.mem_cons.1 hm with rfl | hm
    ·exact hx
    ·exact eFold_fix m T hf h hm
theorem EarlP.hop {p : Pln} {l : List Bk} {q : Req} {tree T : List Int} (G : GC p l q) (ht : tree.length = 16) (hE : p.EarlP l q tree T) {n : Int} (h0 : 0 <= n) (h1 : n < 16) (h2 : gi tree n < 0) (h3 : 0 <= gi T n) :
 ∃ h ∈ p.hopsL l q tree T, (gc p.cons h.con).dst = n /\ h.arr = gi T n := by
 obtain ⟨⟨k, hk⟩, hfix⟩ := hE
 have hinv := eIt_inv (p := p) (l := l) (q := q) (tree := tree) G ht k
 rw [<- hk] at hinv
 obtain ⟨i, h, hi, hd, hs, hm, ha⟩ := hinv.1 n h0 h1 h2 h3
 have hI : p.hopI l q tree T i = some h := by
  unfold Pln.hopI
  rw [if_neg (by rw [hd]; omega)]
  exact hm
 have hmem : h ∈ p.hopsL l q tree T := hopsK_of hI hi
 obtain ⟨b, _, hh, _⟩ := mhop_some hm
 have hcon : h.con = i := by rw [hh]; rfl
 have hn := eFold_fix _ _ hfix h hmem
 rw [hcon, hd] at hn
 exact ⟨h, hmem, by rw [hcon]; exact hd, by omega⟩
theorem EarlP.len {p : Pln} {l : List Bk} {q : Req} {tree T : List Int} (ht : tree.length = 16) (hE : p.EarlP l q tree T) : T.length = 16 := by
 obtain ⟨⟨k, rfl⟩, _⟩ := hE
 rw [eIt_len]; exact ht
theorem eRnd_fix {p : Pln} {l : List Bk} {q : Req} {tree T : List Int} (G : GC p l q) (hT : T.length = 16) (h : (p.eRnd l q tree T).1 = false) : (p.eRnd l q tree T).2 = T := by
 rcases eRnd_nu (p := p) (l := l) (q := q) (tree := tree) (at_ := T) G.bk ⟨G.q1, G.q2⟩ hT with e | ⟨e, _⟩
 ·rw [e]
 ·rw [e] at h; cases h
theorem eIt_fix {p : Pln} {l : List Bk} {q : Req} {tree : List Int} (G : GC p l q) (ht : tree.length = 16) {k : Nat} (h : (p.eRnd l q tree (p.eIt l q tree k)).1 = false) : ∀ d, p.eIt l q tree (k + d) = p.eIt l q tree k
 | 0 => rfl
 | d + 1 => by
   show (p.eRnd l q tree (p.eIt l q tree (k + d))).2 = _
   rw [eIt_fix G ht h d]
   exact eRnd_fix G (by rw [eIt_len]; exact ht) h
theorem EarlP.unique {p : Pln} {l : List Bk} {q : Req} {tree T T' : List Int} (G : GC p l q) (ht : tree.length = 16) (h : p.EarlP l q tree T) (h' : p.EarlP l q tree T') : T = T' := by
 obtain ⟨⟨k, rfl⟩, hf⟩ := h
 obtain ⟨⟨k', rfl⟩, hf'⟩ := h'
 by_cases hk : k <= k'
 ·obtain ⟨d, rfl⟩ : ∃ d, k' = k + d := ⟨k' - k, by omega⟩
  exact (eIt_fix G ht hf d).symm
 ·obtain ⟨d, rfl⟩ : ∃ d, k = k' + d := ⟨k - k', by omega⟩
  exact eIt_fix G ht hf' d
end
section
open Go.RowKit
def Pln.addB (p : Pln) (s : List Br × List Int) (h : Hp) : List Br × List Int :=
 (s.1 ++ [⟨h.con, h.beg, h.en, h.arr, p.lead s.1 (gc p.cons h.con).src⟩], s.2.set (gc p.cons h.con).dst.toNat h.arr)
def Pln.wayF (p : Pln) (bk : List Bk) (q : Req) (tree T : List Int) : Nat -> Int -> List Hp
 | 0, _ => []
 | k + 1, node => if gi tree node < 0 then p.lastH bk q tree T node :: p.wayF bk q tree T k (gc p.cons (p.lastH bk q tree T node).con).src else []
def Pln.GrowR (p : Pln) (bk : List Bk) (q : Req) : List Int -> List Br × List Int -> Option (List Br × List Int) -> Prop
 | [], s, r => r = some s
 | m :: ms, s, r => if 0 <= gi s.2 m then p.GrowR bk q ms s r else
     ∃ T, p.EarlP bk q s.2 T /\ (if gi T m < 0 then r = none else p.GrowR bk q ms ((p.wayF bk q s.2 T 17 m).reverse.foldl p.addB s) r)
theorem addB_fold_len {p : Pln} : ∀ (m : List Hp) (s : List Br × List Int), (m.foldl p.addB s).1.length = s.1.length + m.length /\ (m.foldl p.addB s).2.length = s.2.length
 | [], s => ⟨rfl, rfl⟩
 | h :: m, s => by
   have h1 := addB_fold_len (p := p) m (p.addB s h)
   rw [List.foldl_cons]
   simp only [Pln.addB, List.length_append, List.length_cons, List.length_nil, List.length_set] at h1 ⊢
   exact ⟨by omega, h1.2⟩
theorem addB_fold_in {p : Pln} : ∀ (m : List Hp) (s : List Br × List Int), (∀ h ∈ m, InC p h) -> (∀ b ∈ s.1, InB p b) -> ∀ b ∈ (m.foldl p.addB s).1, InB p b
 | [], s, _, h => h
 | x :: m, s, hm, h => by
   rw [List.foldl_cons]
   refine addB_fold_in m _ (fun y hy => hm y (by simp [hy])) (fun b hb => ?_)
   simp only [Pln.addB, List.mem_append, List.mem_singleton] at hb
   rcases hb with hb | rfl
   ·exact h b hb
   ·exact hm x (by simp)
structure WStep (p : Pln) (bk : List Bk) (q : Req) (tree T : List Int) (node : Int) (h : Hp) : Prop where
 ne : p.lastL bk q tree T node ≠ []
 inc : InC p h
 dst : (gc p.cons h.con).dst = node
 arr : h.arr = gi T node
 s0 : 0 <= (gc p.cons h.con).src
 s1 : (gc p.cons h.con).src < 16
 t0 : 0 <= gi T (gc p.cons h.con).src
 t1 : gi T (gc p.cons h.con).src < gi T node
 hop : p.HopP bk q tree T h
theorem way_step {p : Pln} {bk : List Bk} {q : Req} {tree T : List Int} (G : GC p bk q) (ht : tree.length = 16) (hE : p.EarlP bk q tree T) {node : Int} (h0 : 0 <= node) (h1 : node < 16) (h2 : gi tree node < 0) (h3 : 0 <= gi T node) :
 WStep p bk q tree T node (p.lastH bk q tree T node) := by
 obtain ⟨h, hm, hd, ha⟩ := EarlP.hop G ht hE h0 h1 h2 h3
 have hmem : h ∈ p.lastL bk q tree T node := List.mem_filter.2 ⟨hm, by unfold Pln.lastF; rw [hd, ha]; simp⟩
 have hne : p.lastL bk q tree T node ≠ [] := fun e => by rw [e] at hmem; cases hmem
 have hl := minBy_mem (f := p.lastC T) hne
 change p.lastH bk q tree T node ∈ _ at hl
 have hi := lastL_in _ hl
 obtain ⟨k1, k2⟩ := List.mem_filter.1 hl
 unfold Pln.lastF at k2
 simp only [Bool.and_eq_true, beq_iff_eq] at k2
 have hp := hopsK_mem (Nat.le_refl _) k1
 obtain ⟨i, f⟩ := HopP.facts hp
 have hla := f.late G.bk ⟨G.q1, G.q2⟩
 have hc := G.con f.lt
 have hn := G.n16
 have hs0 := hc.1.src0
 rw [<- f.con] at hla hc hs0
 have fs := f.src
 rw [<- f.con] at fs
 exact ⟨hne, hi, k2.1, k2.2, hs0, by omega, fs, by omega, hp⟩
theorem rank_step {T : List Int} {n n' : Int} (hT : T.length = 16) (h0 : 0 <= n') (h1 : n' < 16) (h2 : 0 <= gi T n') (h3 : gi T n' < gi T n) : rank T (gi T n') < rank T (gi T n) := by
 refine rank_lt ?_ h2 h3
 exact gi_mem (by omega)
theorem rank16 {T : List Int} {n : Int} (hT : T.length = 16) (h0 : 0 <= n) (h1 : n < 16) : rank T (gi T n) < 16 := by
 have := rank_bd (gi_mem (m := T) (i := n) (by omega))
 omega
theorem way_in {p : Pln} {bk : List Bk} {q : Req} {tree T : List Int} (G : GC p bk q) (ht : tree.length = 16) (hE : p.EarlP bk q tree T) : ∀ (k : Nat) {node : Int}, 0 <= node -> node < 16 -> 0 <= gi T node -> ∀ h ∈ p.wayF bk q tree T k node, p.HopP bk q tree T h
 | 0, node, _, _, _, h, hm => by cases hm
 | k + 1, node, h0, h1, h2, h, hm => by
   unfold Pln.wayF at hm
   split at hm
   ·rename_i hn
    have ws := way_step G ht hE h0 h1 hn h2
    rcases List.mem_cons.1 hm with rfl | hm
    ·exact ws.hop
    ·exact way_in G ht hE k ws.s0 ws.s1 ws.t0 h hm
   ·cases hm
theorem HopP.inc {p : Pln} {bk : List Bk} {q : Req} {tree T : List Int} {h : Hp} (hp : p.HopP bk q tree T h) : InC p h := by
 obtain ⟨i, f⟩ := HopP.facts hp
 have := f.lt
 unfold InC
 rw [f.con]
 omega
end
section
open Go.RowKit
def memAt (N : Nat) (src : Int) (l : List Int) (i : Nat) : Prop := ∀ (h : i < l.length), 0 <= l[i] /\ l[i] < N /\ l[i] ≠ src /\ ∀ (_ : 0 < i), l[i - 1] < l[i]
theorem memAt_snoc {N : Nat} {src : Int} {l : List Int} {j : Nat} (h : ∀ i, i < j -> memAt N src l i) (hj : memAt N src l j) : ∀ i, i < j + 1 -> memAt N src l i := fun i hi => by
 by_cases e : i < j
 ·exact h i e
 ·have : i = j := by omega
  subst this; exact hj
theorem memsB_yes {N : Nat} {src : Int} {l : List Int} (h : ∀ i, i < l.length -> memAt N src l i) : memsB N src l = true := by
 unfold memsB
 rw [decide_eq_true_eq]
 exact fun i hi => h i hi hi
theorem memsB_no {N : Nat} {src : Int} {l : List Int} {i : Nat} (hi : i < l.length) (h : ¬ memAt N src l i) : memsB N src l = false := by
 unfold memsB
 rw [decide_eq_false_iff_not]
 exact fun hh => h fun hi => hh i hi
set_option maxRecDepth 100000 in
set_option maxHeartbeats 4000000 in
theorem areMembers_any (Aq : Option Addr) (cq : Nat) (Ac : Option Addr) (cc : Nat) (p : Pln) (q : Req) (Am : Option Addr) (cm : Nat) (l : List Int) (w : World) (hl : Rd EInt w Am l) (hm : l.length <= 1000000) (hqm : p.quo.length <= 1000000) :
 Calls Tryz.prog 80 #[p.val Aq cq Ac cc, q.val, .slice Am l.length cm] w fun e w' => e = .returned (.bool (memsB p.quo.length q.src l)) /\ Ext w w' := by
 obtain ⟨W, hW, hB, hk, hk2, hlt, hlt2⟩ := box2 w #[.slice Aq p.quo.length cq, .slice Ac p.cons.length cc] q.cells 68 85
 simp only [Req.cells] at hW hk2
 have hc := hk.cell
 have hc2 := hk2.cell
 have HR := hl.ext hB
 unfold Pln.val Req.val
 go_enter Tryz.func80, Tryz.ntmps80
 go_wp2_with fail
 clear hW
 go_loopg [11] l.length (fun n k wr => ∃ j : Nat, j + n = l.length /\ k = .int .i64 j /\ Hid (∀ i, i < j -> memAt p.quo.length q.src l i) /\ wr = W)
 case atStart => exact ⟨0, by omega, rfl, Lib.hid (fun i hi => by omega), rfl⟩
 case round =>
  obtain ⟨j, hjq, rfl, hmm, rfl⟩ := hrel
  have Hjq := Lib.hid hjq
  have hjN : j <= l.length := by omega
  clear hjq
  by_cases hlt2 : j < l.length
  ·obtain ⟨b, o, rfl, hbl, hcm⟩ := HR.int hlt2
   have HNO := Lib.hid (fun h : ¬ memAt p.quo.length q.src l j => memsB_no (N := p.quo.length) (src := q.src) hlt2 h)
   by_cases a0 : l[j] < 0
   ·have d0 : decide (l[j] < 0) = true := decide_eq_true a0
    have HV := Lib.hid (HNO.out (fun hh => by have := hh hlt2; omega))
    clear a0
    generalize l[j] = x at *
    go_wp2
    go_ret
    exact ⟨by rw [HV.out]; rfl, hB⟩
   have d0 : decide (l[j] < 0) = false := decide_eq_false a0
   by_cases a1 : (p.quo.length : Int) <= l[j]
   ·have d1 : decide ((p.quo.length : Int) <= l[j]) = true := decide_eq_true a1
    have HV := Lib.hid (HNO.out (fun hh => by have := hh hlt2; omega))
    clear a0 a1
    generalize l[j] = x at *
    go_wp2
    go_ret
    exact ⟨by rw [HV.out]; rfl, hB⟩
   have d1 : decide ((p.quo.length : Int) <= l[j]) = false := decide_eq_false a1
   by_cases a2 : l[j] = q.src
   ·have d2 : (l[j] == q.src) = true := by simpa using a2
    have HV := Lib.hid (HNO.out (fun hh => by have := hh hlt2; omega))
    clear a0 a1 a2
    generalize l[j] = x at *
    go_wp2
    go_ret
    exact ⟨by rw [HV.out]; rfl, hB⟩
   have d2 : (l[j] == q.src) = false := by simpa using a2
   cases j with
   | zero =>
     have HY := Lib.hid (show memAt p.quo.length q.src l 0 from fun h => ⟨by omega, by omega, a2, fun h => by omega⟩)
     clear a0 a1 a2 HNO
     simp only [Nat.add_zero] at hcm
     generalize l[0] = x at *
     go_wp2
     go_roundg (gk - 1)
     case measure => have := Hjq.out; omega
     case rel => exact ⟨0 + 1, by have := Hjq.out; omega, by go_num, Lib.hid (memAt_snoc hmm.out HY.out), rfl⟩
   | succ m =>
     obtain ⟨b', o', hA, hbl', hcp⟩ := HR.int (k := m) (by omega)
     injection hA with hA
     injection hA with hA hA2
     subst hA hA2
     have hwj : IntKind.i64.wrap (m : Int) = (m : Int) := IntWalk.i64_in _ (by omega)
     have d4 : decide ((0 : Int) < (m : Int) + 1) = true := decide_eq_true (by omega)
     by_cases a3 : l[m + 1] <= l[m]
     ·have d3 : decide (l[m + 1] <= l[m]) = true := decide_eq_true a3
      have HV := Lib.hid (HNO.out (fun hh => by have := (hh hlt2).2.2.2 (by omega); simp only [Nat.add_sub_cancel] at this; omega))
      clear a0 a1 a2 a3 HNO
      generalize l[m + 1] = x at *
      generalize l[m] = y at *
      go_wp2
      go_ret
      exact ⟨by rw [HV.out]; rfl, hB⟩
     ·have d3 : decide (l[m + 1] <= l[m]) = false := decide_eq_false a3
      have HY := Lib.hid (show memAt p.quo.length q.src l (m + 1) from fun h => ⟨by omega, by omega, a2, fun h => by simp only [Nat.add_sub_cancel]; omega⟩)
      clear a0 a1 a2 a3 HNO
      generalize l[m + 1] = x at *
      generalize l[m] = y at *
      go_wp2
      go_roundg (gk - 1)
      case measure => have := Hjq.out; omega
      case rel => exact ⟨m + 1 + 1, by have := Hjq.out; omega, by go_num, Lib.hid (memAt_snoc hmm.out HY.out), rfl⟩
  ·have he : j = l.length := by omega
   subst he
   have HV := Lib.hid (memsB_yes hmm.out)
   go_wp2
   go_ret
   exact ⟨by rw [HV.out]; rfl, hB⟩
end
section
open Go.RowKit Go.Shelf
attribute [local go_sem] Oper.semAt_some
theorem results_tmp3 {fn : Func} {a b c : Tmp} (h : fn.results = #[.tmp a, .tmp b, .tmp c]) (tmps : Array Value) (P : Program) (w : World) : (results fn tmps).run P w = .ok (.tuple #[tmps.getD a undef, tmps.getD b undef, tmps.getD c undef]) w := by
 simp only [results, h]
 simp [Sem.run_bind, Result.andThen]
structure TabC (p : Pln) (bk : List Bk) (tv : Value) (k : Int) (w : World) : Prop where
 call : ∀ w', Ext w w' -> Calls Tryz.prog 78 #[tv] w' fun e w'' => e = .returned (.int .i64 k) /\ Ext w' w''
 ok : k = 0 -> p.bkChk bk = 0
def Pln.growOk (p : Pln) (q : Req) (mem : List Int) (k : Int) : Prop := k = 0 /\ fineR p q = true /\ memsB p.quo.length q.src mem = true
def GrowP (p : Pln) (bk : List Bk) (q : Req) (mem : List Int) (k : Int) (w : World) (e : Ending) (w' : World) : Prop :=
 Ext w w' /\ ((p.growOk q mem k /\ ∃ r, p.GrowR bk q mem ([], startL q) r /\
     match r with
     | some s => ∃ u v, e = .returned (.tuple #[u, v, .int .i64 0]) /\ Owns EBr w' w.heap.size 96 u s.1 /\ Owns EInt w' w.heap.size 3 v (mem.map (gi s.2)) /\ s.1.length <= 1000000
     | none => e = .returned (.tuple #[.slice none 0 0, .slice none 0 0, .int .i64 18])) ∨
  (¬ p.growOk q mem k /\ e = .returned (.tuple #[.slice none 0 0, .slice none 0 0, .int .i64 1])))
set_option maxRecDepth 100000 in
set_option maxHeartbeats 4000000 in
theorem Grow_bad (Aq : Option Addr) (cq : Nat) (Ac : Option Addr) (cc : Nat) (p : Pln) (Al : Option Addr) (cl : Nat) (bk : List Bk) (Ah : Option Addr) (nh ch : Nat) (q : Req) (Am : Option Addr) (cm : Nat) (mem : List Int) (k : Int) (w : World) (h : PlnRd w Aq cq Ac cc p) (hmm : Rd EInt w Am mem) (hml : mem.length <= 1000000)
 (hT : TabC p bk (.agg #[.slice Aq p.quo.length cq, .slice Ac p.cons.length cc, .slice Al bk.length cl, .slice Ah nh ch]) k w) (hbad : ¬ p.growOk q mem k) :
 Calls Tryz.prog 26 #[.agg #[.slice Aq p.quo.length cq, .slice Ac p.cons.length cc, .slice Al bk.length cl, .slice Ah nh ch], q.val, .slice Am mem.length cm] w (GrowP p bk q mem k w) := by
 obtain ⟨W0, hW0, hB0, hkt, hkq, hl0, hlq⟩ := box2 w #[.slice Aq p.quo.length cq, .slice Ac p.cons.length cc, .slice Al bk.length cl, .slice Ah nh ch] q.cells 83 85
 simp only [Req.cells] at hW0 hkq
 obtain ⟨W1, hW1, hB1, hkp, hlp⟩ := box1 W0 #[.slice Aq p.quo.length cq, .slice Ac p.cons.length cc] 68
 have hE1 := hB0.trans hB1
 have hkt1 := hkt.ext hB1
 have hkq1 := hkq.ext hB1
 have c0 := hkt.cell
 have c1 := hkt1.cell
 have c2 := hkt1.lt
 have htc := hT.call _ hE1
 have hqm := h.qm
 have hreq := fun w h => tCheckRequest_any Aq cq Ac cc p q w h
 have hmem := fun w h => areMembers_any Aq cq Ac cc p q Am cm mem w h hml hqm
 have FIN : ∀ w', Ext w w' -> GrowP p bk q mem k w (.returned (.tuple #[.slice none 0 0, .slice none 0 0, .int .i64 1])) w' := fun w' hE => ⟨hE, .inr ⟨hbad, rfl⟩⟩
 unfold Pln.val Req.val at hreq hmem
 unfold Req.val
 by_cases hk : k = 0
 case' neg =>
  have d0 : (k != 0) = true := by simpa using hk
  clear hk
  go_enter Tryz.func26, Tryz.ntmps26
  go_wp2_with fail
  clear hW0 hW1
  refine htc.mono ?_
  rintro e w2 ⟨rfl, hb2⟩
  go_wp2
  refine bodyPost_ret (results_tmp3 rfl _ _ _) rfl ?_
  exact FIN _ (hE1.trans hb2)
 subst hk
 cases hf : fineR p q
 case' false =>
  go_enter Tryz.func26, Tryz.ntmps26
  go_wp2_with fail
  clear hW0 hW1
  refine htc.mono ?_
  clear htc
  rintro e w2 ⟨rfl, hb2⟩
  have s1 := (hkp.ext hb2).cell
  have s2 := (hkp.ext hb2).lt
  have s3 := (hkq1.ext hb2).cell
  have s4 := (hkq1.ext hb2).lt
  go_wp2_with fail
  refine (hreq _ ((h.ext hE1).ext hb2)).mono ?_
  rintro e w3 ⟨k3, rfl, hk3, hb3⟩
  have d0 : (k3 != 0) = true := by
   simp only [bne_iff_ne]
   intro e
   rw [hf] at hk3
   exact Bool.false_ne_true (hk3.1 e)
  clear hk3
  go_wp2
  refine bodyPost_ret (results_tmp3 rfl _ _ _) rfl ?_
  exact FIN _ ((hE1.trans hb2).trans hb3)
 cases hmb : memsB p.quo.length q.src mem
 case' true => exact (hbad ⟨rfl, hf, hmb⟩).elim
 rw [hmb] at hmem
 go_enter Tryz.func26, Tryz.ntmps26
 go_wp2_with fail
 clear hW0 hW1
 refine htc.mono ?_
 clear htc
 rintro e w2 ⟨rfl, hb2⟩
 have s1 := (hkp.ext hb2).cell
 have s2 := (hkp.ext hb2).lt
 have s3 := (hkq1.ext hb2).cell
 have s4 := (hkq1.ext hb2).lt
 go_wp2_with fail
 refine (hreq _ ((h.ext hE1).ext hb2)).mono ?_
 rintro e w3 ⟨k3, rfl, hk3, hb3⟩
 obtain rfl : k3 = 0 := hk3.2 hf
 clear hk3 s1 s2 s3 s4
 have s1 := ((hkp.ext hb2).ext hb3).cell
 have s2 := ((hkp.ext hb2).ext hb3).lt
 have s3 := ((hkq1.ext hb2).ext hb3).cell
 have s4 := ((hkq1.ext hb2).ext hb3).lt
 go_wp2_with fail
 refine (hmem _ (((hmm.ext hE1).ext hb2).ext hb3)).mono ?_
 rintro e w4 ⟨rfl, hb4⟩
 go_wp2
 refine bodyPost_ret (results_tmp3 rfl _ _ _) rfl ?_
 exact FIN _ (((hE1.trans hb2).trans hb3).trans hb4)
end
section
open Go Go.RowKit
section
variable {P : Program} {Q : Exit -> Act -> World -> Prop}
theorem upon_round {o : Oper} {a : Act} {K : Act -> World -> Prop} {r : Result Next} (l0 n : Nat) (hL : ¬ LetsOut Q) (h : o.upon P a K Q r) : o.uponIn (Fence.wide.inRound l0) n P a K Q r := by
 cases r with
 | ok nx w' =>
   cases nx with
   | value v => exact h
   | skip => exact h
   | defer d => exact h
   | enter f args => exact ⟨(fun h => by cases h), CallsIn.inRound l0 (callsIn_wide.2 h)⟩
   | row row args => exact ⟨(fun h => by cases h), (show RowsIn Fence.wide (n - 1) P row args w' _ from fun c cs _ => let ⟨v, w', r, s⟩ := h c cs; ⟨v, w', r, stepsIn_wide.2 s⟩)⟩
   | _ => exact h.elim
 | halt x w' =>
   cases x <;> exact h
theorem wpOp_inRound {l : List Oper} {i : Nat} {a : Act} {w : World} {K K' : Act -> World -> Prop} (l0 n : Nat) (hL : ¬ LetsOut Q) (hd : noDefer l = true) (hK : ∀ a w, K a w -> K' a w) (h : wpOp P l.toArray Q i K a w) : wpOpIn (Fence.wide.inRound l0) n P l.toArray Q i K' a w := by
 have h := wpOp_mono hK h
 unfold wpOp at h
 unfold wpOpIn
 split
 ·rename_i h0; simp only [h0] at h; exact h
 ·rename_i o h0
  simp only [h0] at h
  split
  ·rename_i hw
   simp only [hw, if_true] at h
   rcases h with h | ⟨_, h⟩
   ·refine ⟨fun _ _ => trivial, ?_⟩
    rw [Fence.inRound_round, Oper.semAt_some l0 _ _ (noDefer_get hd h0)]
    exact upon_round l0 n hL h
   ·exact (hL h).elim
  ·rename_i hw
   simp only [hw] at h
   exact ⟨fun _ _ => trivial, h⟩
theorem wpAny_inRound {l : List Oper} {md : Region.Mode} (l0 n : Nat) (hL : ¬ LetsOut Q) (hd : noDefer l = true) : ∀ (fuel : Nat) (listed : Array Bool) (a : Act) (w : World), wpAny P md l.toArray Q fuel listed a w -> wpAnyIn (Fence.wide.inRound l0) n P md l.toArray Q fuel listed a w
 | 0, _, _, _, h => h
 | fuel + 1, _, _, _, h => ⟨h.1, fun i hi => wpOp_inRound l0 n hL hd (wpAny_inRound l0 n hL hd fuel _) (h.2 i hi)⟩
theorem wpIn_region_held_round {S : World -> Prop} {l0 n id : Nat} {a : Act} {w : World} {l : List Oper} (hm : P.follows .mixedOrders = true) (hL : ¬ LetsOut Q) (hd : noDefer l = true) (hS : S w.drew)
 (h : S w.drew -> wpAnyH P .any l.toArray Q S l.toArray.size (Array.replicate l.toArray.size false) a w.drew) : (Code.region id l.toArray true).wpIn (Fence.wide.inRound l0) n P Q a w :=
 wpIn_region_any hm (wpAny_inRound l0 n hL hd _ _ _ _ (wpAny_of_held _ _ _ _ (h hS)))
end
end
section
open Go.RowKit Go.Shelf
theorem Owns.netype {α : Type} {E : Elt α} {w : World} {base : Nat} {e e' : TypeId} {v : Value} {l : List α} {b : Nat} {cs : Array Value} (h : Owns E w base e v l) (hb : v.ownBlock = some b) (hk : Blk w b e' cs) (hne : e ≠ e') : False := by
 rcases h.2 with ⟨rfl, _⟩ | ⟨g, cap, cur, rfl, _, hh, _⟩
 ·cases hb
 ·injection hb with hb
  subst hb
  have h2 : w.heap[g]? = some (.cells cs e' (0, 0)) := hk
  rw [hh] at h2
  injection h2 with h2
  injection h2 with _ h2 _
  exact hne h2
def GRel (p : Pln) (bk : List Bk) (q : Req) (mem : List Int) (Bl Bt base : Nat) (W1 : World) (k : Nat) (u : Value) (ds : List Deferred) (wr : World) : Prop :=
 ∃ (j : Nat) (l : List Br) (tree : List Int) (ul : Value), j + k = mem.length /\ u = .int .i64 j /\ Blk wr Bl 86 #[ul] /\ Owns EBr wr base 96 ul l /\ Blk wr Bt 175 (arrV tree) /\ tree.length = 16 /\ (∀ b ∈ l, InB p b) /\ l.length <= 17 * j /\
   Hid (∀ r, p.GrowR bk q (mem.drop j) (l, tree) r -> p.GrowR bk q mem ([], startL q) r) /\ Ext W1 wr /\ DSx wr.heap.size W1.heap.size ds wr
def BRl {ws : List Hp} (p : Pln) (l : List Br) (tree : List Int) (Bl Bt base : Nat) (W1 : World) (B hi : Nat) (ds : List Deferred) (pre : List (BkX ws)) (W : World) : Prop :=
 ∃ u, Blk W Bl 86 #[u] /\ Owns EBr W base 96 u ((unB pre).foldl p.addB (l, tree)).1 /\ Blk W Bt 175 (arrV ((unB pre).foldl p.addB (l, tree)).2) /\ (∀ b, u.ownBlock = some b -> B <= b ∨ b < hi) /\ Ext W1 W /\ DSx B W1.heap.size ds W /\ B <= W.heap.size
theorem BRl.ext {ws : List Hp} {p : Pln} {l : List Br} {tree : List Int} {Bl Bt base : Nat} {W1 : World} {B hi : Nat} {ds : List Deferred} {pre : List (BkX ws)} {W W' : World} (h : BRl p l tree Bl Bt base W1 B hi ds pre W) (hb : Ext W W') : BRl p l tree Bl Bt base W1 B hi ds pre W' := by
 obtain ⟨u, h1, h2, h3, h4, h5, h6, h7⟩ := h
 exact ⟨u, h1.ext hb, h2.ext hb, h3.ext hb, h4, h5.trans hb, h6.ext hb, Nat.le_trans h7 hb.size⟩
theorem brl_own {ws : List Hp} {p : Pln} {l : List Br} {tree : List Int} {Bl Bt base : Nat} {W1 : World} {B hi : Nat} {ds : List Deferred} (hB : W1.heap.size <= B) : OwnFrom B (BRl (ws := ws) p l tree Bl Bt base W1 B hi ds) := by
 intro pre X Y row hs hg hr
 obtain ⟨u, h1, h2, h3, h4, h5, h6, h7⟩ := hs
 exact ⟨u, h1.keptc hg (fun r e => (hr r e).2), h2.keptc hg (fun r e => (hr r e).2), h3.keptc hg (fun r e => (hr r e).2), h4, h5.keptb hg (fun r e => Nat.le_trans hB (hr r e).1), h6.kept hg (fun r e => (hr r e).1), Nat.le_trans h7 hg.size⟩
theorem brl_put {ws : List Hp} {p : Pln} {l : List Br} {tree : List Int} {Bl Bt base : Nat} {W1 : World} {B hi : Nat} {ds : List Deferred} {pre : List (BkX ws)} {x : BkX ws} {W w9 w6 : World} {u v : Value} {S : List Br × List Int} {y : Hp} {c : Con}
 (hS : (unB pre).foldl p.addB (l, tree) = S) (hy : x.1.2 = y) (hc : gc p.cons y.con = c)
 (q1 : Blk W Bl 86 #[u]) (q2 : Owns EBr W base 96 u S.1) (q3 : Blk W Bt 175 (arrV S.2)) (q4 : ∀ b, u.ownBlock = some b -> B <= b ∨ b < hi) (q5 : Ext W1 W) (q6 : DSx B W1.heap.size ds W) (q7 : B <= W.heap.size)
 (hx : Ext W w9) (h1 : W1.heap.size <= Bl) (h2 : Bl < Bt) (h3 : Bt < base) (h4 : base <= hi) (h5 : hi <= B)
 (hv : Owns EBr w6 base 96 v (S.1 ++ [(⟨y.con, y.beg, y.en, y.arr, p.lead S.1 c.src⟩ : Br)])) (hg : (w9.alloc (.cells (EBr.cells (⟨y.con, y.beg, y.en, y.arr, p.lead S.1 c.src⟩ : Br)).toArray 96)).grownBy w6 u.ownBlock)
 (hat : v.ownBlock = u.ownBlock ∨ v.ownBlock = some (w9.alloc (.cells (EBr.cells (⟨y.con, y.beg, y.en, y.arr, p.lead S.1 c.src⟩ : Br)).toArray 96)).heap.size) :
 KeepsFrom B W ((w6.setCell ⟨Bl, 0, none⟩ v).setCell ⟨Bt, c.dst.toNat, none⟩ (.int .i64 y.arr)) /\ KpZ B W1.heap.size hi W ((w6.setCell ⟨Bl, 0, none⟩ v).setCell ⟨Bt, c.dst.toNat, none⟩ (.int .i64 y.arr)) /\
  BRl p l tree Bl Bt base W1 B hi ds (pre ++ [x]) ((w6.setCell ⟨Bl, 0, none⟩ v).setCell ⟨Bt, c.dst.toNat, none⟩ (.int .i64 y.arr)) := by
 have ha : Ext W (w9.alloc (.cells (EBr.cells (⟨y.con, y.beg, y.en, y.arr, p.lead S.1 c.src⟩ : Br)).toArray 96)) := hx.alloc _
 have oa := q2.ext ha
 have hub : ∀ r, u.ownBlock = some r -> base <= r := fun r e => (q2.block e).1
 have hk : KeepsOthers W ((w6.setCell ⟨Bl, 0, none⟩ v).setCell ⟨Bt, c.dst.toNat, none⟩ (.int .i64 y.arr)) := ((ha.keeps.trans (keeps_own oa hg)).trans (KeepsOthers.setCell _ _ _)).trans (KeepsOthers.setCell _ _ _)
 have e : (unB (pre ++ [x])).foldl p.addB (l, tree) = (S.1 ++ [(⟨y.con, y.beg, y.en, y.arr, p.lead S.1 c.src⟩ : Br)], S.2.set c.dst.toNat y.arr) := by
  rw [unB_snoc, List.foldl_append, hS, hy]
  show p.addB S y = _
  unfold Pln.addB
  rw [hc]
 have k1 := (q1.ext ha).kept hg (fun e' => by have := hub _ e'.symm; omega)
 have k3 := (q3.ext ha).kept hg (fun e' => by have := hub _ e'.symm; omega)
 refine ⟨hk.from _, (((KpZ.of_ext q7 ha).trans (KpZ.grown (Nat.le_trans q7 ha.size) hg (fun r e' => (q4 r e').imp id (fun h => ⟨by have := hub r e'; omega, h⟩)))).trans (KpZ.setCell _ ⟨h1, by omega⟩ _ _)).trans (KpZ.setCell _ ⟨by omega, by omega⟩ _ _), v, ?_, ?_, ?_, ?_, ?_, ?_, ?_⟩
 ·exact (k1.set0 _).far (by simp; omega) _
 ·rw [e]
  exact (hv.kept (grown_setCell (World.grownBy.refl w6 (some Bl)) 0 _) (fun g hgg e' => by injection e' with e'; have := (hv.block hgg).1; omega)).kept (grown_setCell (World.grownBy.refl _ (some Bt)) _ _) (fun g hgg e' => by injection e' with e'; have := (hv.block hgg).1; omega)
 ·rw [e]
  show Blk _ _ _ (arrV (List.set _ _ _))
  rw [<- arrV_set]
  exact (k3.far (by simp; omega) _).set_ _ _
 ·intro b hb
  rcases hat with h | h
  ·rw [h] at hb; exact q4 b hb
  ·rw [h] at hb; injection hb with hb; left; have := ha.size; omega
 ·have hx6 : Ext W1 w6 := ext_grown (q5.trans ha) oa (by omega) hg
  exact (hx6.setCell h1 _).setCell (by show W1.heap.size <= Bt; omega) _
 ·exact (q6.keeps ((ha.keeps.trans (keeps_own oa hg)).trans (KeepsOthers.setCell _ _ _))).keeps (KeepsOthers.setCell _ _ _)
 ·exact Nat.le_trans q7 hk.size
theorem memsB_ge {N : Nat} {src : Int} {l : List Int} (h : memsB N src l = true) : ∀ (i : Nat) (hi : i < l.length), (i : Int) <= l[i] /\ l[i] < N
 | 0, hi => by
   unfold memsB at h
   rw [decide_eq_true_eq] at h
   have := h 0 hi
   omega
 | i + 1, hi => by
   have ih := memsB_ge h i (by omega)
   unfold memsB at h
   rw [decide_eq_true_eq] at h
   have h1 := h (i + 1) hi
   have h2 := h1.2.2.2 (by omega)
   simp only [Nat.add_sub_cancel] at h2
   omega
theorem memsB_len {N : Nat} {src : Int} {l : List Int} (h : memsB N src l = true) : l.length <= N := by
 by_cases h0 : l.length = 0
 ·omega
 ·have := memsB_ge h (l.length - 1) (by omega)
  omega
theorem info_br : (Tryz.prog.info? 96).map (fun i => (i.zero, i.size, i.bytes)) = some (some (.agg #[.int .i64 0, .int .i64 0, .int .i64 0, .int .i64 0, .int .i64 0]), 5, 40) := by kernel_rfl
end
end Go.Proofs.YtemkpimngbbpkaaGreat
