/- A range over a function whose iterator writes a box of its own between the rounds. · Layer 35 (multicast): the iterator up. · Layer 35 (multicast): Check, Reached. · Layer 35 (multicast): the walk of Path. · Layer 35 (multicast): the walk of Prune. · Layer 35 (multicast): trees, plain. · Layer 35 (multicast): what Prune leaves, plain. · Layer 35 (multicast): what Grow comes to is a tree, plain. · Layer 35 (multicast): the hops of Grow are free of bookings; what Grow returns, plain. · Layer 35 (multicast): without bookings, plain. -/
import Derived.RangeFuncNested
import Derived.Sort.LoopGhostIn
import Derived.BigQuiet
import Derived.Test.YtemkpimngbbpkaaGreatQt01
import Derived.Test.YtemkpimngbbpkaaGreatQt04
import Derived.Test.YtemkpimngbbpkaaGreatQt05
import Derived.Test.YtemkpimngbbpkaaGreatQt22
import Derived.Test.YtemkpimngbbpkaaGreatQt24
namespace Go.Proofs.YtemkpimngbbpkaaGreat
set_option linter.unusedVariables false
set_option linter.unusedSimpArgs false
section
open Go.RowKit Go.Shelf
end
section
open Go.RowKit Go.Shelf
attribute [local go_sem] Oper.semAt_some
def upN (l : List Br) : Nat -> List Int
 | 0 => []
 | k + 1 => (k : Int) :: (if (gbr l k).par < -1 ∨ (k : Int) <= (gbr l k).par then [-2] else upN l ((gbr l k).par + 1).toNat)
termination_by k => k
decreasing_by omega
theorem upN_0 (l : List Br) : upN l 0 = [] := by rw [upN]
theorem upN_s (l : List Br) (k : Nat) : upN l (k + 1) = (k : Int) :: (if (gbr l k).par < -1 ∨ (k : Int) <= (gbr l k).par then [-2] else upN l ((gbr l k).par + 1).toNat) := by rw [upN]
end
section
open Go.RowKit Go.Shelf
attribute [local go_sem] Oper.semAt_some
end
section
open Go.RowKit Go.Shelf
attribute [local go_sem] Oper.semAt_some
end
section
open Go.RowKit Go.Shelf
attribute [local go_sem] Oper.semAt_some
def TreeK (p : Pln) (l : List Br) : Prop := ∀ k, k < l.length -> InB p (gbr l k) /\ -1 <= (gbr l k).par /\ (gbr l k).par < k
theorem TreeK.up {p : Pln} {l : List Br} (T : TreeK p l) : ∀ (k : Nat), k <= l.length -> ∀ x ∈ upN l k, 0 <= x /\ x < l.length
 | 0, _, x, h => by rw [upN_0] at h; cases h
 | k + 1, hk, x, h => by
   obtain ⟨t1, t2, t3⟩ := T k (by omega)
   rw [upN_s, if_neg (by omega)] at h
   rcases List.mem_cons.1 h with rfl | h
   ·omega
   ·exact T.up ((gbr l k).par + 1).toNat (by omega) x h
def Pln.nee1 (p : Pln) (l : List Br) (nd : List Bool) (m : Int) : List Bool := (upN l (p.lead l m + 1).toNat).foldl (fun nd k => nd.set k.toNat true) nd
def Pln.nee (p : Pln) (l : List Br) (mem : List Int) : List Bool := mem.foldl (p.nee1 l) (List.replicate l.length false)
def prS (l : List Br) (nd : List Bool) : Nat -> List Br × List Int
 | 0 => ([], List.replicate l.length 0)
 | k + 1 => if nd.getD k false = true then
     ((prS l nd k).1 ++ [{ gbr l k with par := if 0 <= (gbr l k).par then gi (prS l nd k).2 (gbr l k).par else (gbr l k).par }], (prS l nd k).2.set k (prS l nd k).1.length) else prS l nd k
def Pln.prune (p : Pln) (l : List Br) (mem : List Int) : List Br := (prS l (p.nee l mem) l.length).1
theorem nee_len : ∀ (ks : List Int) (nd : List Bool), (ks.foldl (fun nd k => nd.set k.toNat true) nd).length = nd.length
 | [], _ => rfl
 | k :: ks, nd => by rw [List.foldl_cons, nee_len ks, List.length_set]
theorem prS_len (l : List Br) (nd : List Bool) : ∀ k, (prS l nd k).2.length = l.length
 | 0 => by simp [prS]
 | k + 1 => by
   unfold prS
   split
   ·rw [List.length_set]; exact prS_len l nd k
   ·exact prS_len l nd k
theorem findI_bd {α : Type} (f : α -> Bool) (l : List α) : -1 <= findI f l /\ findI f l < l.length := by
 unfold findI
 split
 ·rename_i h
  have := List.findIdx_lt_length.2 (by simpa using List.any_eq_true.1 h)
  omega
 ·omega
theorem lead_bd (p : Pln) (l : List Br) (m : Int) : -1 <= p.lead l m /\ p.lead l m < l.length := findI_bd _ _
end
section
open Go.RowKit
def Pln.nd (p : Pln) (l : List Br) (k : Nat) : Int := (gc p.cons (gbr l k).con).dst
structure BrV (p : Pln) (q : Req) (l : List Br) (k : Nat) : Prop where
 con0 : 0 <= (gbr l k).con
 con1 : (gbr l k).con < p.cons.length
 par0 : -1 <= (gbr l k).par
 par1 : (gbr l k).par < k
 ok : (gc p.cons (gbr l k).con).Ok
 nd0 : 0 <= p.nd l k
 nd1 : p.nd l k < p.quo.length
 root : (gbr l k).par = -1 -> (gc p.cons (gbr l k).con).src = q.src /\ q.ready <= (gbr l k).beg
 next : 0 <= (gbr l k).par -> (gc p.cons (gbr l k).con).src = p.nd l (gbr l k).par.toNat /\ (gbr l (gbr l k).par.toNat).arr <= (gbr l k).beg
 new : gi (p.mAt q l k) (p.nd l k) < 0
 fits : (gc p.cons (gbr l k).con).fitsB (gbr l k).beg q.size = true
 at0 : (gc p.cons (gbr l k).con).atE (gbr l k).beg q.size = 0
 en : (gbr l k).en = (gbr l k).beg + (gc p.cons (gbr l k).con).dur q.size
 arr : (gbr l k).arr = (gbr l k).en + (gc p.cons (gbr l k).con).rng
 arr0 : 0 <= (gbr l k).arr
 dead : (gbr l k).arr <= q.dead
structure VT (p : Pln) (q : Req) (l : List Br) : Prop where
 fine : fineR p q = true
 len : l.length <= 16
 br : ∀ k, k < l.length -> BrV p q l k
theorem VT.req {p : Pln} {q : Req} {l : List Br} (V : VT p q l) : 0 <= q.src /\ q.src < p.quo.length /\ p.quo.length <= 16 /\ 1 <= q.size /\ q.size <= 65536 /\ 0 <= q.ready /\ q.ready <= q.dead := by
 have h := fineR_of V.fine
 have hok := Pln.ok_of h.1
 have hn := hok.n16
 have hq := h.2
 simp only [Req.okB, decide_eq_true_eq] at hq
 omega
theorem gi_get' {m : List Int} {x : Int} (h : x.toNat < m.length) : gi m x = m[x.toNat] := by simp [gi, h]
theorem startL_gi {q : Req} (h0 : 0 <= q.src) (h1 : q.src < 16) {x : Int} (hx : 0 <= x) (hx1 : x < 16) : gi (startL q) x = if x = q.src then q.ready else -1 := by
 unfold startL
 rw [gi_set16 (by simp) h0 h1 hx]
 split
 ·rfl
 ·have h : x.toNat < (List.replicate 16 (-1 : Int)).length := by simp; omega
  rw [gi_get' h]
  exact List.getElem_replicate h
theorem mAt_set {p : Pln} {q : Req} {l : List Br} (V : VT p q l) {k : Nat} (hk : k < l.length) {x : Int} (hx : 0 <= x) : gi (p.mAt q l (k + 1)) x = if x = p.nd l k then (gbr l k).arr else gi (p.mAt q l k) x := by
 have b := V.br k hk
 have := V.req
 exact gi_set16 (p.mAt_len q l k) b.nd0 (show p.nd l k < 16 by have := b.nd1; omega) hx
theorem mAt_src {p : Pln} {q : Req} {l : List Br} (V : VT p q l) : ∀ k, k <= l.length -> gi (p.mAt q l k) q.src = q.ready
 | 0, _ => by
   have := V.req
   show gi (startL q) q.src = _
   rw [startL_gi (by omega) (by omega) (by omega) (by omega), if_pos rfl]
 | k + 1, hk => by
   have ih := mAt_src V k (by omega)
   have b := V.br k (by omega)
   have hr := V.req
   rw [mAt_set V (by omega) hr.1]
   have hn := b.new
   rw [if_neg (fun e => by rw [<- e, ih] at hn; omega)]
   exact ih
theorem mAt_nd {p : Pln} {q : Req} {l : List Br} (V : VT p q l) : ∀ k, k <= l.length -> ∀ j, j < k -> gi (p.mAt q l k) (p.nd l j) = (gbr l j).arr
 | 0, _, j, hj => by omega
 | k + 1, hk, j, hj => by
   have b := V.br k (by omega)
   have bj := V.br j (by omega)
   rw [mAt_set V (by omega) bj.nd0]
   by_cases e : j = k
   ·subst e; rw [if_pos rfl]
   ·have ih := mAt_nd V k (by omega) j (by omega)
    have hn := b.new
    have ha := bj.arr0
    rw [if_neg (fun e => by rw [<- e, ih] at hn; omega)]
    exact ih
theorem mAt_none {p : Pln} {q : Req} {l : List Br} (V : VT p q l) : ∀ k, k <= l.length -> ∀ x, 0 <= x -> x < 16 -> x ≠ q.src -> (∀ j, j < k -> x ≠ p.nd l j) -> gi (p.mAt q l k) x = -1
 | 0, _, x, h0, h1, h2, _ => by
   have := V.req
   show gi (startL q) x = _
   rw [startL_gi (by omega) (by omega) (by omega) (by omega), if_neg h2]
 | k + 1, hk, x, h0, h1, h2, h3 => by
   rw [mAt_set V (by omega) h0, if_neg (h3 k (by omega))]
   exact mAt_none V k (by omega) x h0 h1 h2 (fun j hj => h3 j (by omega))
theorem VT.inj {p : Pln} {q : Req} {l : List Br} (V : VT p q l) {i j : Nat} (hi : i < j) (hj : j < l.length) : p.nd l i ≠ p.nd l j := fun e => by
 have h1 := mAt_nd V j (by omega) i hi
 have h2 := (V.br j hj).new
 have h3 := (V.br i (by omega)).arr0
 rw [e] at h1
 omega
theorem VT.nsrc {p : Pln} {q : Req} {l : List Br} (V : VT p q l) {j : Nat} (hj : j < l.length) : p.nd l j ≠ q.src := fun e => by
 have h1 := mAt_src V j (by omega)
 have h2 := (V.br j hj).new
 have h3 := V.req
 rw [e] at h2
 omega
theorem VT.tree {p : Pln} {q : Req} {l : List Br} (V : VT p q l) : TreeK p l := fun k hk => by
 have b := V.br k hk
 exact ⟨⟨b.con0, b.con1⟩, b.par0, b.par1⟩
end
section
open Go.RowKit
theorem brE_of {p : Pln} {q : Req} {m : List Br} {i : Nat} {at_ : List Int} (c0 : 0 <= (gbr m i).con) (c1 : (gbr m i).con < p.cons.length) (p0 : -1 <= (gbr m i).par) (p1 : (gbr m i).par < i)
 (root : (gbr m i).par = -1 -> (gc p.cons (gbr m i).con).src = q.src /\ q.ready <= (gbr m i).beg)
 (next : 0 <= (gbr m i).par -> (gc p.cons (gbr m i).con).src = p.nd m (gbr m i).par.toNat /\ (gbr m (gbr m i).par.toNat).arr <= (gbr m i).beg)
 (new : gi at_ (p.nd m i) < 0) (at0 : (gc p.cons (gbr m i).con).atE (gbr m i).beg q.size = 0)
 (en : (gbr m i).en = (gbr m i).beg + (gc p.cons (gbr m i).con).dur q.size) (arr : (gbr m i).arr = (gbr m i).en + (gc p.cons (gbr m i).con).rng) (dead : (gbr m i).arr <= q.dead) : p.brE q m i at_ = 0 := by
 have hat : (gc p.cons (gbr m i).con).arrT (gbr m i).beg q.size = (gbr m i).beg + (gc p.cons (gbr m i).con).dur q.size + (gc p.cons (gbr m i).con).rng := by
  unfold Con.arrT Con.aftT
  rw [if_pos at0]
  omega
 have new' : ¬ 0 <= gi at_ (gc p.cons (gbr m i).con).dst := by unfold Pln.nd at new; omega
 have key : ∀ node ready, (gc p.cons (gbr m i).con).src = node -> ready <= (gbr m i).beg -> brT (gc p.cons (gbr m i).con) q (gbr m i) at_ node ready = 0 := by
  intro node ready h1 h2
  unfold brT
  rw [if_pos h1, if_neg new', if_neg (by omega), if_neg (fun h => h at0), if_neg (fun h => h ⟨by omega, by omega⟩), if_neg (by omega)]
 unfold Pln.brE
 rw [if_neg (by omega)]
 by_cases e : 0 <= (gbr m i).par
 ·rw [if_pos e]
  exact key _ _ (next e).1 (next e).2
 ·rw [if_neg e]
  exact key _ _ (root (by omega)).1 (root (by omega)).2
def cn (l : List Br) (nd : List Bool) (k : Nat) : Nat := (prS l nd k).1.length
theorem prS_yes {l : List Br} {nd : List Bool} {k : Nat} (h : nd.getD k false = true) : prS l nd (k + 1) = ((prS l nd k).1 ++ [{ gbr l k with par := if 0 <= (gbr l k).par then gi (prS l nd k).2 (gbr l k).par else (gbr l k).par }], (prS l nd k).2.set k (prS l nd k).1.length) := by
 rw [prS, if_pos h]
theorem gbr_app {a b : List Br} {i : Nat} (h : i < a.length) : gbr (a ++ b) i = gbr a i := by
 unfold gbr
 rw [List.getD_eq_getElem?_getD, List.getD_eq_getElem?_getD, List.getElem?_append_left h]
theorem gbr_snoc {a : List Br} {x : Br} {b : List Br} : gbr (a ++ [x] ++ b) a.length = x := by
 simp [gbr, List.getD_eq_getElem?_getD]
theorem marks {j : Nat} : ∀ (ks : List Int) (nd : List Bool), (∀ x ∈ ks, 0 <= x /\ x < nd.length) -> ((ks.foldl (fun nd k => nd.set k.toNat true) nd).getD j false = true ↔ nd.getD j false = true ∨ (j : Int) ∈ ks)
 | [], nd, _ => by simp
 | k :: ks, nd, h => by
   obtain ⟨h0, h1⟩ := h k (List.mem_cons_self ..)
   rw [List.foldl_cons, marks ks _ (fun x hx => by rw [List.length_set]; exact h x (List.mem_cons_of_mem _ hx))]
   rw [List.getD_eq_getElem?_getD, List.getElem?_set]
   by_cases e : k.toNat = j
   ·rw [if_pos e]
    have : k.toNat < nd.length := by omega
    rw [if_pos this]
    simp [show (j : Int) = k by omega]
   ·rw [if_neg e, <- List.getD_eq_getElem?_getD, List.mem_cons]
    have : ¬ (j : Int) = k := by omega
    simp [this]
theorem neeM_iff {p : Pln} {q : Req} {l : List Br} (V : VT p q l) {j : Nat} : ∀ (ms : List Int) (nd : List Bool), nd.length = l.length -> ((ms.foldl (p.nee1 l) nd).getD j false = true ↔ nd.getD j false = true ∨ ∃ m ∈ ms, (j : Int) ∈ upN l (p.lead l m + 1).toNat)
 | [], nd, _ => by simp
 | m :: ms, nd, hn => by
   have hb := lead_bd p l m
   rw [List.foldl_cons, neeM_iff V ms _ (by unfold Pln.nee1; rw [nee_len, hn])]
   unfold Pln.nee1
   rw [marks _ _ (fun x hx => by rw [hn]; exact V.tree.up _ (by omega) x hx)]
   simp [or_assoc]
theorem nee_iff {p : Pln} {q : Req} {l : List Br} (V : VT p q l) {mem : List Int} {j : Nat} : (p.nee l mem).getD j false = true ↔ ∃ m ∈ mem, (j : Int) ∈ upN l (p.lead l m + 1).toNat := by
 unfold Pln.nee
 rw [neeM_iff V mem _ (by simp)]
 have : (List.replicate l.length false).getD j false = false := by
  rw [List.getD_eq_getElem?_getD, List.getElem?_replicate]
  split <;> rfl
 rw [this]
 simp
theorem lead_at {p : Pln} {q : Req} {l : List Br} (V : VT p q l) {a : Nat} (ha : a < l.length) : p.lead l (p.nd l a) = a := by
 unfold Pln.lead
 refine findI_at ha ?_ ?_
 ·rw [List.any_eq_false]
  intro b hb
  rw [List.mem_take_iff_getElem] at hb
  obtain ⟨i, hi, rfl⟩ := hb
  have h := V.inj (show i < a by omega) ha
  have h2 : p.nd l i = (gc p.cons l[i].con).dst := by unfold Pln.nd; rw [gbr_get (show i < l.length by omega)]
  rw [h2] at h
  unfold Pln.leads
  simpa using h
 ·unfold Pln.leads Pln.nd
  rw [gbr_get ha]
  simp
theorem prS_all {p : Pln} {q : Req} {m : List Br} (V : VT p q m) {nd : List Bool} (h : ∀ j, j < m.length -> nd.getD j false = true) : ∀ k, k <= m.length -> (prS m nd k).1 = m.take k /\ ∀ j : Nat, j < k -> gi (prS m nd k).2 (j : Int) = j
 | 0, _ => ⟨by simp [prS], fun j hj => by omega⟩
 | k + 1, hk => by
   obtain ⟨h1, h2⟩ := prS_all V h k (by omega)
   have b := V.br k (by omega)
   have b0 := b.par0
   have b1 := b.par1
   have hl : (prS m nd k).1.length = k := by rw [h1, List.length_take]; omega
   rw [prS_yes (h k (by omega))]
   constructor
   ·show (prS m nd k).1 ++ [_] = _
    have e : (if 0 <= (gbr m k).par then gi (prS m nd k).2 (gbr m k).par else (gbr m k).par) = (gbr m k).par := by
     split
     ·rename_i e
      have := h2 (gbr m k).par.toNat (by omega)
      rw [show (((gbr m k).par.toNat : Nat) : Int) = (gbr m k).par by omega] at this
      exact this
     ·rfl
    rw [e, h1, List.take_succ_eq_append_getElem (by omega)]
    rw [gbr_get (by omega)]
   ·intro j hj
    show gi (List.set _ _ _) _ = _
    rw [hl]
    unfold gi
    rw [Int.toNat_natCast, List.getD_eq_getElem?_getD, List.getElem?_set]
    by_cases e : k = j
    ·subst e
     rw [if_pos rfl, prS_len]
     rw [if_pos (by omega)]
     rfl
    ·rw [if_neg e, <- List.getD_eq_getElem?_getD]
     have := h2 j (by omega)
     unfold gi at this
     rw [Int.toNat_natCast] at this
     exact this
theorem memsB_in {N : Nat} {src : Int} {l : List Int} (h : memsB N src l = true) {x : Int} (hx : x ∈ l) : 0 <= x /\ x < N /\ x ≠ src := by
 obtain ⟨i, hi, rfl⟩ := List.mem_iff_getElem.1 hx
 unfold memsB at h
 have := (of_decide_eq_true h) i hi
 exact ⟨this.1, this.2.1, this.2.2.1⟩
theorem mErr_of {p : Pln} {q : Req} {l : List Br} : ∀ {n : Nat}, (∀ k, k < n -> p.brE q l k (p.mAt q l k) = 0) -> p.mErr q l n = 0
 | 0, _ => rfl
 | n + 1, h => by
   show (if p.mErr q l n = 0 then _ else _) = _
   rw [if_pos (mErr_of (fun k hk => h k (by omega)))]
   exact h n (by omega)
theorem mchk_of {p : Pln} {q : Req} {mem : List Int} {l : List Br} (h1 : fineR p q = true) (h2 : memsB p.quo.length q.src mem = true) (h3 : l.length <= 16) (h4 : p.mErr q l l.length = 0) (h5 : ∀ m ∈ mem, 0 <= gi (p.mAt q l l.length) m) : p.mchk q mem l = 0 := by
 unfold Pln.mchk
 rw [if_pos ⟨h1, h2⟩, if_neg (by omega), if_pos h4, if_neg ?_]
 simp only [List.any_eq_true, decide_eq_true_eq, not_exists, not_and]
 intro x hx
 have := h5 x hx
 omega
end
section
open Go.RowKit
theorem inj_le : ∀ (N n : Nat) (f : Nat -> Int), (∀ i, i < n -> 0 <= f i /\ f i < N) -> (∀ i j, i < j -> j < n -> f i ≠ f j) -> n <= N
 | 0, n, f, h, _ => by
   cases n with
   | zero => exact Nat.le_refl _
   | succ n => have := h 0 (by omega); omega
 | N + 1, n, f, h, hi => by
   by_cases hx : ∃ i, i < n /\ f i = N
   ·obtain ⟨i, hin, hfi⟩ := hx
    have := inj_le N (n - 1) (fun k => if k < i then f k else f (k + 1)) (fun k hk => by
     split
     ·rename_i h1
      have h2 := h k (by omega)
      have h3 := hi k i h1 hin
      rw [hfi] at h3
      omega
     ·rename_i h1
      have h2 := h (k + 1) (by omega)
      have h3 := hi i (k + 1) (by omega) (by omega)
      rw [hfi] at h3
      omega) (fun a b hab hb => by
     split
     ·split
      ·exact hi a b hab (by omega)
      ·exact hi a (b + 1) (by omega) (by omega)
     ·rw [if_neg (by omega)]
      exact hi (a + 1) (b + 1) (by omega) (by omega))
    omega
   ·have := inj_le N n f (fun i hin => by
     have h2 := h i hin
     have h3 : f i ≠ N := fun e => hx ⟨i, hin, e⟩
     omega) hi
    omega
theorem mAt_app {p : Pln} {q : Req} {l : List Br} (e : List Br) : ∀ k, k <= l.length -> p.mAt q (l ++ e) k = p.mAt q l k
 | 0, _ => rfl
 | k + 1, hk => by
   show (p.mAt q (l ++ e) k).set _ _ = (p.mAt q l k).set _ _
   rw [mAt_app e k (by omega), gbr_app (by omega)]
theorem upN_app {l : List Br} (e : List Br) : ∀ k, k <= l.length -> upN (l ++ e) k = upN l k
 | 0, _ => by rw [upN_0, upN_0]
 | k + 1, hk => by
   rw [upN_s, upN_s, gbr_app (by omega)]
   split
   ·rfl
   ·rename_i h
    rw [upN_app e ((gbr l k).par + 1).toNat (by omega)]
theorem nd_app {p : Pln} {l : List Br} (e : List Br) {k : Nat} (h : k < l.length) : p.nd (l ++ e) k = p.nd l k := by
 unfold Pln.nd; rw [gbr_app h]
theorem BrV.app {p : Pln} {q : Req} {l : List Br} (e : List Br) {k : Nat} (h : k < l.length) (b : BrV p q l k) : BrV p q (l ++ e) k := by
 have e1 : gbr (l ++ e) k = gbr l k := gbr_app h
 have e2 : p.nd (l ++ e) k = p.nd l k := nd_app e h
 have e3 : p.mAt q (l ++ e) k = p.mAt q l k := mAt_app e k (by omega)
 have hp := b.par1
 exact ⟨by rw [e1]; exact b.con0, by rw [e1]; exact b.con1, by rw [e1]; exact b.par0, by rw [e1]; exact b.par1, by rw [e1]; exact b.ok, by rw [e2]; exact b.nd0, by rw [e2]; exact b.nd1,
  by rw [e1]; exact b.root, by rw [e1]; intro h0; rw [nd_app e (by omega), gbr_app (by omega)]; exact b.next h0, by rw [e2, e3]; exact b.new, by rw [e1]; exact b.fits, by rw [e1]; exact b.at0, by rw [e1]; exact b.en, by rw [e1]; exact b.arr, by rw [e1]; exact b.arr0, by rw [e1]; exact b.dead⟩
structure AddC (p : Pln) (q : Req) (tree : List Int) (x : Hp) : Prop where
 c0 : 0 <= x.con
 c1 : x.con < p.cons.length
 s : 0 <= gi tree (gc p.cons x.con).src
 d : gi tree (gc p.cons x.con).dst < 0
 b : gi tree (gc p.cons x.con).src <= x.beg
 st : (gc p.cons x.con).st <= x.beg
 fit : x.beg + (gc p.cons x.con).dur q.size <= (gc p.cons x.con).en
 en : x.en = x.beg + (gc p.cons x.con).dur q.size
 arr : x.arr = x.en + (gc p.cons x.con).rng
 dead : x.arr <= q.dead
structure TI (p : Pln) (q : Req) (s : List Br × List Int) : Prop where
 vt : VT p q s.1
 at_ : s.2 = p.mAt q s.1 s.1.length
theorem TI.start {p : Pln} {q : Req} (hf : fineR p q = true) : TI p q ([], startL q) := ⟨⟨hf, Nat.zero_le _, fun k hk => by simp at hk⟩, rfl⟩
theorem TI.len {p : Pln} {q : Req} {s : List Br × List Int} (h : TI p q s) : s.2.length = 16 := by rw [h.at_]; exact p.mAt_len q _ _
theorem TI.node {p : Pln} {q : Req} {s : List Br × List Int} (h : TI p q s) {x : Int} (h0 : 0 <= x) (h1 : x < 16) (hx : 0 <= gi s.2 x) : (x = q.src /\ gi s.2 x = q.ready) ∨ ∃ j, j < s.1.length /\ x = p.nd s.1 j /\ gi s.2 x = (gbr s.1 j).arr := by
 have hat := h.at_
 by_cases e : x = q.src
 ·left; rw [hat, e]; exact ⟨rfl, mAt_src h.vt _ (Nat.le_refl _)⟩
 ·right
  apply Classical.byContradiction
  intro hn
  have h2 := mAt_none h.vt _ (Nat.le_refl _) x h0 h1 e (fun j hj e2 => hn ⟨j, hj, e2, by rw [hat, e2]; exact mAt_nd h.vt _ (Nat.le_refl _) j hj⟩)
  rw [hat, h2] at hx
  omega
theorem lead_src {p : Pln} {q : Req} {l : List Br} (V : VT p q l) : p.lead l q.src = -1 := by
 unfold Pln.lead
 refine findI_nope ?_
 rw [List.any_eq_false]
 intro b hb
 obtain ⟨i, hi, rfl⟩ := List.mem_iff_getElem.1 hb
 have h := V.nsrc hi
 have h2 : p.nd l i = (gc p.cons l[i].con).dst := by unfold Pln.nd; rw [gbr_get hi]
 rw [h2] at h
 unfold Pln.leads
 simpa using h
theorem gbr_last {l : List Br} {b : Br} : gbr (l ++ [b]) l.length = b := by
 have := gbr_snoc (a := l) (x := b) (b := [])
 rwa [List.append_nil] at this
theorem TI.add {p : Pln} {bk : List Bk} {q : Req} {s : List Br × List Int} {x : Hp} (G : GC p bk q) (h : TI p q s) (a : AddC p q s.2 x) : TI p q (p.addB s x) := by
 have hr := h.vt.req
 have hcl : x.con.toNat < p.cons.length := by have := a.c0; have := a.c1; omega
 have hC := G.con hcl
 rw [show ((x.con.toNat : Nat) : Int) = x.con by have := a.c0; omega] at hC
 have ha := a.d
 have hd0 := hC.1.dst0
 have hs0 := hC.1.src0
 have hst0 := hC.1.st0
 have hrng := hC.1.rng0
 have hdur := Con.dur_bd hC.1 G.q1 G.q2
 have hdist : ∀ j, j < s.1.length -> p.nd s.1 j ≠ (gc p.cons x.con).dst := fun j hj e => by
  have h1 := mAt_nd h.vt _ (Nat.le_refl _) j hj
  rw [<- h.at_, e] at h1
  have := (h.vt.br j hj).arr0
  omega
 have hlen : s.1.length + 1 <= 16 := by
  have := inj_le p.quo.length (s.1.length + 1) (fun k => if k < s.1.length then p.nd s.1 k else (gc p.cons x.con).dst) (fun k hk => by
   split
   ·rename_i h1
    exact ⟨(h.vt.br k h1).nd0, (h.vt.br k h1).nd1⟩
   ·exact ⟨hd0, hC.2.2⟩) (fun i j hij hj => by
   rw [if_pos (by omega)]
   split
   ·rename_i h1; exact h.vt.inj hij h1
   ·exact hdist i (by omega))
  omega
 have hnode := h.node hs0 (by omega) a.s
 have hb : gbr (s.1 ++ [⟨x.con, x.beg, x.en, x.arr, p.lead s.1 (gc p.cons x.con).src⟩]) s.1.length = ⟨x.con, x.beg, x.en, x.arr, p.lead s.1 (gc p.cons x.con).src⟩ := gbr_last
 have hnew : BrV p q (s.1 ++ [⟨x.con, x.beg, x.en, x.arr, p.lead s.1 (gc p.cons x.con).src⟩]) s.1.length := by
  have hlb := lead_bd p s.1 (gc p.cons x.con).src
  have hnd : p.nd (s.1 ++ [⟨x.con, x.beg, x.en, x.arr, p.lead s.1 (gc p.cons x.con).src⟩]) s.1.length = (gc p.cons x.con).dst := by unfold Pln.nd; rw [hb]
  have h1 := a.st
  have h2 := a.fit
  have h3 := a.en
  have h4 := a.arr
  have h5 := a.b
  have hfit : (gc p.cons x.con).fitsB x.beg q.size = true := decide_eq_true ⟨by omega, by omega⟩
  refine ⟨by rw [hb]; exact a.c0, by rw [hb]; exact a.c1, by rw [hb]; exact hlb.1, by rw [hb]; exact hlb.2, by rw [hb]; exact hC.1, by rw [hnd]; exact hd0, by rw [hnd]; exact hC.2.2, ?_, ?_, ?_, by rw [hb]; exact hfit,
   by rw [hb]; exact Con.at_ok.2 ⟨hC.1, ⟨G.q1, G.q2⟩, by dsimp only; omega, by dsimp only; omega⟩, by rw [hb]; exact a.en, by rw [hb]; exact a.arr, by rw [hb]; dsimp only; omega, by rw [hb]; exact a.dead⟩
  ·rw [hb]
   intro e
   dsimp only at e ⊢
   rcases hnode with ⟨e1, e2⟩ | ⟨j, hj, e1, e2⟩
   ·exact ⟨e1, by omega⟩
   ·rw [e1, lead_at h.vt hj] at e; omega
  ·rw [hb]
   intro e
   dsimp only at e ⊢
   rcases hnode with ⟨e1, e2⟩ | ⟨j, hj, e1, e2⟩
   ·rw [e1, lead_src h.vt] at e; omega
   ·rw [e1, lead_at h.vt hj, Int.toNat_natCast, nd_app _ hj, gbr_app hj]
    exact ⟨rfl, by omega⟩
  ·rw [hnd, mAt_app _ _ (Nat.le_refl _), <- h.at_]
   exact a.d
 refine ⟨⟨h.vt.fine, by simp only [Pln.addB, List.length_append, List.length_singleton]; exact hlen, fun k hk => ?_⟩, ?_⟩
 ·simp only [Pln.addB, List.length_append, List.length_singleton] at hk
  by_cases e : k < s.1.length
  ·exact (h.vt.br k e).app _ e
  ·obtain rfl : k = s.1.length := by omega
   exact hnew
 ·show s.2.set _ _ = p.mAt q (s.1 ++ [_]) (s.1 ++ [_]).length
  rw [List.length_append, List.length_singleton]
  show _ = (p.mAt q (s.1 ++ [_]) s.1.length).set _ _
  rw [hb, mAt_app _ _ (Nat.le_refl _), <- h.at_]
theorem addB_at {p : Pln} {s : List Br × List Int} {x : Hp} (hl : s.2.length = 16) (h0 : 0 <= (gc p.cons x.con).dst) (h1 : (gc p.cons x.con).dst < 16) {y : Int} (hy : 0 <= y) : gi (p.addB s x).2 y = if y = (gc p.cons x.con).dst then x.arr else gi s.2 y := gi_set16 hl h0 h1 hy
def FreeH (bk : List Bk) (con beg en : Int) : Prop := ∀ x ∈ bk, x.con = con -> ¬ (x.beg < en /\ beg < x.en)
structure WayP (p : Pln) (bk : List Bk) (q : Req) (T : List Int) (node : Int) (s t : List Br × List Int) : Prop where
 ti : TI p q t
 at_ : gi t.2 node = gi T node
 old : ∀ x, 0 <= x -> x < 16 -> 0 <= gi s.2 x -> gi t.2 x = gi s.2 x
 new : ∀ x, 0 <= x -> x < 16 -> 0 <= gi t.2 x -> 0 <= gi s.2 x ∨ gi T x <= gi T node
 pre : ∃ e, t.1 = s.1 ++ e
 last : gi s.2 node < 0 -> s.1.length < t.1.length /\ p.nd t.1 (t.1.length - 1) = node
 same : ¬ gi s.2 node < 0 -> t = s
 up : ∀ j, s.1.length <= j -> j < t.1.length -> (j : Int) ∈ upN t.1 t.1.length
 free : (∀ b ∈ s.1, FreeH bk b.con b.beg b.en) -> ∀ b ∈ t.1, FreeH bk b.con b.beg b.en
theorem HopP.add {p : Pln} {bk : List Bk} {q : Req} {tree T : List Int} {h : Hp} (G : GC p bk q) (hp : p.HopP bk q tree T h) : 0 <= h.con /\ h.con < p.cons.length /\ gi tree (gc p.cons h.con).dst < 0 /\ gi T (gc p.cons h.con).src <= h.beg /\ (gc p.cons h.con).st <= h.beg /\ h.beg + (gc p.cons h.con).dur q.size <= (gc p.cons h.con).en /\ h.en = h.beg + (gc p.cons h.con).dur q.size /\ h.arr = h.en + (gc p.cons h.con).rng /\ h.arr <= q.dead := by
 obtain ⟨i, f⟩ := HopP.facts hp
 have hl := f.late G.bk ⟨G.q1, G.q2⟩
 have := f.lt
 have hd := f.dst
 have hde := f.dead
 have hc := f.con
 rw [<- hc] at hl hd
 omega
theorem way_p {p : Pln} {bk : List Bk} {q : Req} {T : List Int} {s : List Br × List Int} (G : GC p bk q) (hT : TI p q s) (hE : p.EarlP bk q s.2 T) (hfr : ∀ h, p.HopP bk q s.2 T h -> FreeH bk h.con h.beg h.en) : ∀ (k : Nat) {node : Int}, 0 <= node -> node < 16 -> 0 <= gi T node -> rank T (gi T node) < k ->
 WayP p bk q T node s ((p.wayF bk q s.2 T k node).reverse.foldl p.addB s)
 | 0, node, _, _, _, hk => by omega
 | k + 1, node, h0, h1, h2, hk => by
   have hsl := hT.len
   have hTl := EarlP.len hsl hE
   unfold Pln.wayF
   by_cases hn : gi s.2 node < 0
   ·rw [if_pos hn, List.reverse_cons, List.foldl_append]
    have ws := way_step G hsl hE h0 h1 hn h2
    obtain ⟨f0, f1, f2, f3, f4, f5, f6, f7, f8⟩ := HopP.add G ws.hop
    have ffree := hfr _ ws.hop
    have hrk : rank T (gi T (gc p.cons (p.lastH bk q s.2 T node).con).src) < k := by
     have := rank_step hTl ws.s0 ws.s1 ws.t0 ws.t1
     omega
    have ih := way_p G hT hE hfr k ws.s0 ws.s1 ws.t0 hrk
    generalize hu : (p.wayF bk q s.2 T k (gc p.cons (p.lastH bk q s.2 T node).con).src).reverse.foldl p.addB s = u at ih ⊢
    have hdst := ws.dst
    have harr := ws.arr
    have hs0 := ws.s0
    have hs1 := ws.s1
    have ht0 := ws.t0
    have ht1 := ws.t1
    clear ws hu
    generalize p.lastH bk q s.2 T node = x at *
    have hud : gi u.2 node < 0 := by
     apply Classical.byContradiction
     intro hh
     rcases ih.new node h0 h1 (by omega) with e | e
     ·omega
     ·omega
    have hA : AddC p q u.2 x := ⟨f0, f1, by rw [ih.at_]; exact ht0, by rw [hdst]; exact hud, by rw [ih.at_]; exact f3, f4, f5, f6, f7, f8⟩
    have hti := TI.add G ih.ti hA
    have hul := ih.ti.len
    have hat := fun {y : Int} (hy : 0 <= y) => addB_at (p := p) (x := x) hul (by rw [hdst]; exact h0) (by rw [hdst]; exact h1) hy
    rw [hdst] at hat
    show WayP p bk q T node s (p.addB u x)
    obtain ⟨e, he⟩ := ih.pre
    have hle : s.1.length <= u.1.length := by rw [he, List.length_append]; omega
    have hlen : (p.addB u x).1.length = u.1.length + 1 := by simp [Pln.addB]
    have hf1 : (p.addB u x).1 = u.1 ++ [⟨x.con, x.beg, x.en, x.arr, p.lead u.1 (gc p.cons x.con).src⟩] := rfl
    refine ⟨hti, ?_, fun y hy hy1 hs => ?_, fun y hy hy1 hs => ?_, ⟨e ++ [_], by rw [hf1, he, List.append_assoc]⟩, fun _ => ⟨by omega, ?_⟩, fun hh => absurd hn hh, fun j hj1 hj2 => ?_, fun hs b hb => ?_⟩
    ·rw [hat h0, if_pos rfl]; exact harr
    ·rw [hat hy]
     split
     ·rename_i e; subst e; omega
     ·exact ih.old y hy hy1 hs
    ·rw [hat hy] at hs
     split at hs
     ·rename_i e; subst e; exact .inr (Int.le_refl _)
     ·rcases ih.new y hy hy1 hs with e | e
      ·exact .inl e
      ·exact .inr (by omega)
    ·rw [hlen, Nat.add_sub_cancel, hf1]
     unfold Pln.nd
     rw [gbr_last]
     exact hdst
    ·rw [hlen] at hj2 ⊢
     have hb : gbr (p.addB u x).1 u.1.length = ⟨x.con, x.beg, x.en, x.arr, p.lead u.1 (gc p.cons x.con).src⟩ := gbr_last
     have hlb := lead_bd p u.1 (gc p.cons x.con).src
     rw [upN_s, hb, if_neg (by dsimp only; omega)]
     by_cases ej : j = u.1.length
     ·subst ej; exact List.mem_cons_self ..
     ·refine List.mem_cons_of_mem _ ?_
      dsimp only
      have hju : j < u.1.length := by omega
      by_cases hsn : gi s.2 (gc p.cons x.con).src < 0
      ·obtain ⟨l1, l2⟩ := ih.last hsn
       have hlead : p.lead u.1 (gc p.cons x.con).src = ((u.1.length - 1 : Nat) : Int) := by
        rw [<- l2]; exact lead_at ih.ti.vt (by omega)
       rw [hlead, show ((((u.1.length - 1 : Nat) : Int)) + 1).toNat = u.1.length by omega, hf1, upN_app _ _ (Nat.le_refl _)]
       exact ih.up j hj1 hju
      ·have := ih.same hsn
       rw [this] at hju
       omega
    ·rw [hf1, List.mem_append, List.mem_singleton] at hb
     rcases hb with hb | rfl
     ·exact ih.free hs b hb
     ·exact ffree
   ·rw [if_neg hn]
    exact ⟨hT, (EarlP.tr G hsl hE h0 h1 (by omega)).symm, fun _ _ _ _ => rfl, fun _ _ _ h => .inl h, ⟨[], by simp⟩, fun h => absurd h hn, fun _ => rfl, fun j hj1 hj2 => by simp at hj2; omega, fun h => h⟩
structure GI (p : Pln) (bk : List Bk) (q : Req) (P : List Int) (s : List Br × List Int) : Prop where
 ti : TI p q s
 rng : ∀ m ∈ P, 0 <= m /\ m < 16
 mem : ∀ m ∈ P, 0 <= gi s.2 m
 need : ∀ j, j < s.1.length -> ∃ m ∈ P, (j : Int) ∈ upN s.1 (p.lead s.1 m + 1).toNat
 free : ∀ b ∈ s.1, FreeH bk b.con b.beg b.en
theorem GI.start {p : Pln} {bk : List Bk} {q : Req} (hf : fineR p q = true) : GI p bk q [] ([], startL q) := ⟨TI.start hf, fun m hm => (by cases hm), fun m hm => (by cases hm), fun j hj => absurd hj (Nat.not_lt_zero _), fun b hb => (by cases hb)⟩
theorem lead_app {p : Pln} {q : Req} {l e : List Br} (V : VT p q l) (V' : VT p q (l ++ e)) {m : Int} (h : p.lead l m ≠ -1) : p.lead (l ++ e) m = p.lead l m := by
 have hb := lead_bd p l m
 obtain ⟨a, ha⟩ : ∃ a : Nat, p.lead l m = (a : Int) := ⟨(p.lead l m).toNat, by omega⟩
 have hal : a < l.length := by omega
 have hnd : p.nd l a = m := by
  have h1 : findI (p.leads m) l = (a : Int) := ha
  unfold findI at h1
  split at h1
  ·rename_i hany
   have h2 : l.findIdx (p.leads m) = a := by omega
   have h3 : p.leads m (l[a]) = true := by
    have h4 := List.findIdx_getElem (p := p.leads m) (xs := l) (w := by omega)
    have h5 : l[l.findIdx (p.leads m)]'(by omega) = l[a] := by congr
    rw [<- h5]; exact h4
   unfold Pln.nd
   rw [gbr_get hal]
   unfold Pln.leads at h3
   simpa using h3
  ·omega
 rw [ha]
 have h6 := lead_at V' (a := a) (by rw [List.length_append]; omega)
 rw [nd_app e hal, hnd] at h6
 exact h6
theorem GI.grow {p : Pln} {bk : List Bk} {q : Req} (G : GC p bk q) (hfr : ∀ tree T h, p.HopP bk q tree T h -> FreeH bk h.con h.beg h.en) : ∀ (ms P : List Int) (s : List Br × List Int) (t : List Br × List Int), GI p bk q P s -> (∀ m ∈ ms, 0 <= m /\ m < 16) -> p.GrowR bk q ms s (some t) ->
 GI p bk q (P ++ ms) t /\ (∃ e, t.1 = s.1 ++ e) /\ ∀ x, 0 <= x -> x < 16 -> 0 <= gi s.2 x -> gi t.2 x = gi s.2 x
 | [], P, s, t, hI, _, h => by
   unfold Pln.GrowR at h
   injection h with h
   subst h
   rw [List.append_nil]
   exact ⟨hI, ⟨[], by simp⟩, fun _ _ _ _ => rfl⟩
 | m :: ms, P, s, t, hI, hms, h => by
   have hm := hms m (List.mem_cons_self ..)
   have hms' := fun x hx => hms x (List.mem_cons_of_mem _ hx)
   have hsplit : P ++ m :: ms = (P ++ [m]) ++ ms := by simp
   unfold Pln.GrowR at h
   by_cases h0 : 0 <= gi s.2 m
   ·rw [if_pos h0] at h
    rw [hsplit]
    refine GI.grow G hfr ms (P ++ [m]) s t ⟨hI.ti, fun x hx => ?_, fun x hx => ?_, fun j hj => ?_, hI.free⟩ hms' h
    ·rcases List.mem_append.1 hx with hx | hx
     ·exact hI.rng x hx
     ·rw [List.mem_singleton.1 hx]; exact hm
    ·rcases List.mem_append.1 hx with hx | hx
     ·exact hI.mem x hx
     ·rw [List.mem_singleton.1 hx]; exact h0
    ·obtain ⟨x, hx, hu⟩ := hI.need j hj
     exact ⟨x, List.mem_append_left _ hx, hu⟩
   ·rw [if_neg h0] at h
    obtain ⟨T, hE, h⟩ := h
    by_cases h1 : gi T m < 0
    ·rw [if_pos h1] at h; cases h
    ·rw [if_neg h1] at h
     have hTl := EarlP.len hI.ti.len hE
     have w := way_p G hI.ti hE (fun h hh => hfr _ _ h hh) 17 hm.1 hm.2 (by omega) (by have := rank16 (n := m) hTl hm.1 hm.2; omega)
     generalize (p.wayF bk q s.2 T 17 m).reverse.foldl p.addB s = u at w h
     obtain ⟨e, he⟩ := w.pre
     obtain ⟨l1, l2⟩ := w.last (by omega)
     have hlm : p.lead u.1 m = ((u.1.length - 1 : Nat) : Int) := by rw [<- l2]; exact lead_at w.ti.vt (by omega)
     have hI' : GI p bk q (P ++ [m]) u := ⟨w.ti, fun x hx => by
      rcases List.mem_append.1 hx with hx | hx
      ·exact hI.rng x hx
      ·rw [List.mem_singleton.1 hx]; exact hm, fun x hx => by
      rcases List.mem_append.1 hx with hx | hx
      ·have h3 := hI.mem x hx
       have h4 := hI.rng x hx
       rw [w.old x h4.1 h4.2 h3]; exact h3
      ·rw [List.mem_singleton.1 hx, w.at_]; omega, fun j hj => by
      by_cases hjs : j < s.1.length
      ·obtain ⟨x, hx, hu⟩ := hI.need j hjs
       refine ⟨x, List.mem_append_left _ hx, ?_⟩
       have hne : p.lead s.1 x ≠ -1 := fun e => by rw [e] at hu; rw [show ((-1 : Int) + 1).toNat = 0 by rfl, upN_0] at hu; cases hu
       have hb := lead_bd p s.1 x
       have hl := lead_app (e := e) hI.ti.vt (he ▸ w.ti.vt) hne
       rw [he, hl, upN_app e _ (by omega)]
       exact hu
      ·refine ⟨m, List.mem_append_right _ (List.mem_singleton.2 rfl), ?_⟩
       rw [hlm, show (((u.1.length - 1 : Nat) : Int) + 1).toNat = u.1.length by omega]
       exact w.up j (by omega) hj, w.free hI.free⟩
     obtain ⟨g1, ⟨e2, g2⟩, g3⟩ := GI.grow G hfr ms (P ++ [m]) u t hI' hms' h
     rw [hsplit]
     refine ⟨g1, ⟨e ++ e2, by rw [g2, he, List.append_assoc]⟩, fun x hx hx1 hs => ?_⟩
     have h5 := w.old x hx hx1 hs
     rw [g3 x hx hx1 (by omega), h5]
end
section
open Go.RowKit
theorem bkErr_at {p : Pln} {l : List Bk} : ∀ {n : Nat}, p.bkErr l n = 0 -> ∀ k, k < n -> p.bkAt l k = 0
 | 0, _, k, h => by omega
 | n + 1, h, k, hk => by
   have h2 : p.bkErr l (n + 1) = if p.bkErr l n = 0 then p.bkAt l n else p.bkErr l n := rfl
   rw [h2] at h
   split at h
   ·rename_i h0
    by_cases e : k = n
    ·subst e; exact h
    ·exact bkErr_at h0 k (by omega)
   ·rename_i h0; exact absurd h h0
theorem bkChk_err {p : Pln} {l : List Bk} (h : p.bkChk l = 0) : p.bkErr l l.length = 0 := by
 unfold Pln.bkChk at h
 split at h
 ·split at h
  ·cases h
  ·exact h
 ·cases h
theorem bk_adj {p : Pln} {l : List Bk} (h : p.bkChk l = 0) {k : Nat} (hk : k + 1 < l.length) : (gbk l k).con < (gbk l (k + 1)).con ∨ ((gbk l k).con = (gbk l (k + 1)).con /\ (gbk l k).en <= (gbk l (k + 1)).beg) := by
 have h1 := bkErr_at (bkChk_err h) (k + 1) hk
 unfold Pln.bkAt at h1
 rw [Nat.add_sub_cancel] at h1
 generalize gbk l k = a at *
 generalize gbk l (k + 1) = b at *
 split at h1
 ·cases h1
 ·rw [if_neg (by omega)] at h1
  split at h1
  ·cases h1
  ·rename_i h2
   split at h1
   ·cases h1
   ·rename_i h3
    by_cases e1 : a.con < b.con
    ·exact .inl e1
    ·by_cases e2 : b.con < a.con
     ·exfalso
      apply h2
      unfold bkCmp orL cmpI
      rw [if_neg e1, if_pos e2, if_neg (by omega)]
      omega
     ·have e3 : a.con = b.con := by omega
      right
      refine ⟨e3, ?_⟩
      apply Classical.byContradiction
      intro hn
      exact h3 ⟨e3, by omega⟩
theorem bk_pair {p : Pln} {l : List Bk} (h : p.bkChk l = 0) {j : Nat} : ∀ (d : Nat) (_ : j + 1 + d < l.length), (gbk l j).con <= (gbk l (j + 1 + d)).con /\ ((gbk l j).con = (gbk l (j + 1 + d)).con -> (gbk l j).en <= (gbk l (j + 1 + d)).beg)
 | 0, hk => by
   have e := bk_adj h (k := j) hk
   show (gbk l j).con <= (gbk l (j + 1)).con /\ ((gbk l j).con = (gbk l (j + 1)).con -> (gbk l j).en <= (gbk l (j + 1)).beg)
   rcases e with e | e
   ·exact ⟨by omega, fun e2 => by omega⟩
   ·exact ⟨by omega, fun _ => e.2⟩
 | d + 1, hk => by
   have ih := bk_pair h (j := j) d (by omega)
   have ha := bk_adj h (k := j + 1 + d) (by omega)
   have hv := of_decide_eq_true ((Pln.bkChk_ok h).2.2 _ (List.getElem_mem (show j + 1 + d < l.length by omega)))
   rw [<- gbk_get (show j + 1 + d < l.length by omega)] at hv
   show (gbk l j).con <= (gbk l (j + 1 + d + 1)).con /\ ((gbk l j).con = (gbk l (j + 1 + d + 1)).con -> (gbk l j).en <= (gbk l (j + 1 + d + 1)).beg)
   rcases ha with e | e
   ·exact ⟨by omega, fun e2 => by omega⟩
   ·exact ⟨by omega, fun e2 => by have := ih.2 (by omega); omega⟩
theorem bk_pw {p : Pln} {l : List Bk} (h : p.bkChk l = 0) : l.Pairwise (fun x y => x.con = y.con -> x.en <= y.beg) := by
 rw [List.pairwise_iff_getElem]
 intro i j hi hj hij
 have := (bk_pair h (j := i) (j - (i + 1)) (by omega)).2
 rw [show i + 1 + (j - (i + 1)) = j by omega, gbk_get hi, gbk_get hj] at this
 exact this
theorem fit_free {n en i : Int} (hn : 1 <= n) : ∀ (bk : List Bk) (a b : Int), bk.Pairwise (fun x y => x.con = y.con -> x.en <= y.beg) -> (∀ x ∈ bk, x.beg < x.en) -> fitW n en a (busyL bk i) = some b -> ∀ x ∈ bk, x.con = i -> ¬ (x.beg < b + n /\ b < x.en)
 | [], _, _, _, _, _, x, hx, _ => by cases hx
 | y :: bk, a, b, hp, hb, hf, x, hx, hc => by
   have hp2 := List.pairwise_cons.1 hp
   have hb2 := fun z hz => hb z (List.mem_cons_of_mem _ hz)
   by_cases hy : y.con = i
   ·have e : busyL (y :: bk) i = ⟨y.beg, y.en⟩ :: busyL bk i := by unfold busyL; rw [List.filter_cons, if_pos (by simpa using hy), List.map_cons]
    rw [e] at hf
    unfold fitW at hf
    split at hf
    ·rename_i h1
     injection hf with hf
     subst hf
     dsimp only at h1
     rcases List.mem_cons.1 hx with rfl | hx
     ·omega
     ·have h2 := hp2.1 x hx (by omega)
      have h3 := hb y (List.mem_cons_self ..)
      omega
    ·rcases List.mem_cons.1 hx with rfl | hx
     ·have := fitW_ge hf
      dsimp only at this
      omega
     ·exact fit_free hn bk _ b hp2.2 hb2 hf x hx hc
   ·have e : busyL (y :: bk) i = busyL bk i := by unfold busyL; rw [List.filter_cons, if_neg (by simpa using hy)]
    rw [e] at hf
    rcases List.mem_cons.1 hx with rfl | hx
    ·exact absurd hc hy
    ·exact fit_free hn bk a b hp2.2 hb2 hf x hx hc
theorem hop_free {p : Pln} {bk : List Bk} {q : Req} (G : GC p bk q) (tree T : List Int) (h : Hp) (hp : p.HopP bk q tree T h) : FreeH bk h.con h.beg h.en := by
 obtain ⟨i, f⟩ := HopP.facts hp
 obtain ⟨b, hb, hh⟩ := f.fit
 have hd := G.dur f.lt
 rw [fit_is hd] at hb
 have hv : ∀ x ∈ bk, x.beg < x.en := fun x hx => by
  have := of_decide_eq_true ((Pln.bkChk_ok G.bk).2.2 x hx)
  omega
 have key := fit_free hd bk _ b (bk_pw G.bk) hv hb
 subst hh
 exact key
structure GrownP (p : Pln) (bk : List Bk) (q : Req) (mem : List Int) (t : List Br × List Int) : Prop where
 gi_ : GI p bk q mem t
 chk : p.mchk q mem t.1 = 0
 prune : p.prune t.1 mem = t.1
 times : ∀ x, gi (p.mAt q t.1 t.1.length) x = gi t.2 x
theorem grown {p : Pln} {bk : List Bk} {q : Req} {mem : List Int} {t : List Br × List Int} (G : GC p bk q) (hf : fineR p q = true) (hm : memsB p.quo.length q.src mem = true) (h : p.GrowR bk q mem ([], startL q) (some t)) : GrownP p bk q mem t := by
 have hn := G.n16
 have hI := (GI.grow G (hop_free G) mem [] _ t (GI.start hf) (fun m hm2 => by have := memsB_in hm hm2; omega) h).1
 rw [List.nil_append] at hI
 have ht : ∀ x, gi (p.mAt q t.1 t.1.length) x = gi t.2 x := fun x => by rw [hI.ti.at_]
 have V := hI.ti.vt
 have hbr : ∀ k, k < t.1.length -> p.brE q t.1 k (p.mAt q t.1 k) = 0 := fun k hk => by
  have b := V.br k hk
  exact brE_of b.con0 b.con1 b.par0 b.par1 b.root b.next b.new b.at0 b.en b.arr b.dead
 have hall : ∀ j, j < t.1.length -> (p.nee t.1 mem).getD j false = true := fun j hj => (nee_iff V).2 (hI.need j hj)
 refine ⟨hI, mchk_of hf hm V.len (mErr_of hbr) (fun m hm2 => by rw [ht]; exact hI.mem m hm2), ?_, ht⟩
 have h8 := (prS_all V hall _ (Nat.le_refl _)).1
 rw [List.take_length] at h8
 exact h8
end
section
open Go.RowKit
theorem earr_fit {c : Con} {t b n : Int} (ht : t <= b) (h1 : c.st <= b) (h2 : b + c.dur n <= c.en) (h0 : 0 <= b + c.dur n + c.rng) (h3 : 0 <= c.dur n) (h4 : 0 <= c.rng) (h5 : 0 <= t) : earr c t n ≠ -1 /\ earr c t n <= b + c.dur n + c.rng := by
 have hb : c.beg t <= b /\ t <= c.beg t := by unfold Con.beg; split <;> omega
 unfold earr
 have hf : c.fitsB (c.beg t) n = true := decide_eq_true ⟨(beg_ge c t).2, by omega⟩
 rw [hf, if_pos rfl]
 omega
theorem tree_least {p : Pln} {q : Req} {l : List Br} {T0 : List Int} (V : VT p q l) (J : JC p.quo.length p.cons q.size q.src q.ready) (hL : Least p.quo.length (RA p.cons q.size q.src q.ready) T0) : ∀ k, k < l.length -> 0 <= gi T0 (p.nd l k) /\ gi T0 (p.nd l k) <= (gbr l k).arr := by
 intro k
 induction k using Nat.strongRecOn with
 | _ k ih =>
   intro hk
   have b := V.br k hk
   have hr := V.req
   have hsrc := hL.srcT J
   have hs : 0 <= gi T0 (gc p.cons (gbr l k).con).src /\ gi T0 (gc p.cons (gbr l k).con).src <= (gbr l k).beg := by
    by_cases e : (gbr l k).par = -1
    ·obtain ⟨e1, e2⟩ := b.root e
     rw [e1, hsrc]
     omega
    ·have hp := b.par0
     obtain ⟨e1, e2⟩ := b.next (by omega)
     have hp1 := b.par1
     have h := ih (gbr l k).par.toNat (by omega) (by omega)
     rw [e1]
     omega
   have hcl : (gbr l k).con.toNat < p.cons.length := by have := b.con0; have := b.con1; omega
   have hmem : gc p.cons (gbr l k).con ∈ p.cons := by rw [gc_get hcl]; exact List.getElem_mem hcl
   have hok := b.ok
   have hd := Con.dur_bd hok (show 1 <= q.size by omega) (show q.size <= 65536 by omega)
   have hfit := of_decide_eq_true b.fits
   have h1 := hok.rng0
   have h2 := b.en
   have h3 := b.arr
   have h4 := b.arr0
   have he := earr_fit (c := gc p.cons (gbr l k).con) (n := q.size) hs.2 hfit.1 (by omega) (by omega) (by omega) (by omega) hs.1
   have hedge := hL.edge J hmem hs.1 he.1
   show 0 <= gi T0 (gc p.cons (gbr l k).con).dst /\ gi T0 (gc p.cons (gbr l k).con).dst <= _
   omega
end
end Go.Proofs.YtemkpimngbbpkaaGreat
