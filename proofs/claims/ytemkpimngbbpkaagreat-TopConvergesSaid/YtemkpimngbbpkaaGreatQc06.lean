/- Update: one more change; the plan of a history. · Update: what a node knows and what it is missing, plain. · Update: what slices.Compact leaves, step by step; plain. · Three nodes' play: what is known of whom, plain. · slices.Reverse of a list of hops of the call's own. · Lists of integers and of hops compared: the walks. -/
import Derived.Test.YtemkpimngbbpkaaGreatRows
import Derived.BigRegion
import Derived.Laws.StructEq
import Derived.LaidEql
import Derived.Test.YtemkpimngbbpkaaGreatQc01
import Derived.Test.YtemkpimngbbpkaaGreatQc02
namespace Go.Proofs.YtemkpimngbbpkaaGreat
set_option linter.unusedVariables false
set_option linter.unusedSimpArgs false
open Go.RowKit
def nxt (x y : Chg) : Chg := ⟨x.org, if y.org = x.org then max x.cnt (y.cnt + 1) else x.cnt, max x.stp (y.stp + 1), x.kind, x.con⟩
def nextC (l : List Chg) (o kind : Int) (c : Con) : Chg := l.foldl nxt ⟨o, 1, 1, kind, c⟩
theorem nxtF_spec : ∀ (l : List Chg) (x : Chg), (l.foldl nxt x).org = x.org /\ (l.foldl nxt x).kind = x.kind /\ (l.foldl nxt x).con = x.con /\ x.stp <= (l.foldl nxt x).stp /\ (∀ y ∈ l, y.stp < (l.foldl nxt x).stp) /\
 x.cnt <= (l.foldl nxt x).cnt /\ (∀ y ∈ l, y.org = x.org -> y.cnt < (l.foldl nxt x).cnt) /\ ∀ m, x.cnt <= m -> (∀ y ∈ l, y.org = x.org -> y.cnt + 1 <= m) -> (l.foldl nxt x).cnt <= m
 | [], x => by simp
 | y :: r, x => by
   obtain ⟨h1, h2, h3, h4, h5, h6, h7, h8⟩ := nxtF_spec r (nxt x y)
   rw [List.foldl_cons]
   have e1 : (nxt x y).org = x.org := rfl
   have e2 : (nxt x y).stp = max x.stp (y.stp + 1) := rfl
   have e3 : (nxt x y).cnt = if y.org = x.org then max x.cnt (y.cnt + 1) else x.cnt := rfl
   rw [e1] at h1 h7 h8
   rw [e2] at h4
   rw [e3] at h6
   refine ⟨h1, h2, h3, by omega, ?_, by split at h6 <;> omega, ?_, ?_⟩
   ·intro z hz
    rcases List.mem_cons.1 hz with rfl | hz
    ·omega
    ·exact h5 z hz
   ·intro z hz hzo
    rcases List.mem_cons.1 hz with rfl | hz
    ·rw [if_pos hzo] at h6; omega
    ·exact h7 z hz hzo
   ·intro m hm hb
    refine h8 m ?_ (fun z hz => hb z (by simp [hz]))
    rw [e3]
    split
    ·rename_i e; have := hb y (by simp) e; omega
    ·exact hm
theorem hist_own {L : Nat -> List Chg} {k : Nat -> Nat} (h : LogOk L) {n : Nat} {y : Chg} (hy : y ∈ hist L k) (ho : y.org = n) : ∃ i, ∃ hi : i < (L n).length, i < k n /\ y = (L n)[i] := by
 obtain ⟨o, _, hy⟩ := hist_mem.1 hy
 obtain ⟨i, hi, hk, rfl⟩ := take_mem.1 hy
 rw [h.org] at ho
 have : o = n := by omega
 subst this
 exact ⟨i, hi, hk, rfl⟩
theorem own_hist {L : Nat -> List Chg} {k : Nat -> Nat} {n : Nat} (hn : n < 3) {i : Nat} (hi : i < (L n).length) (hk : i < k n) : (L n)[i] ∈ hist L k := hist_mem.2 ⟨n, hn, take_mem.2 ⟨i, hi, hk, rfl⟩⟩
theorem next_hist {L : Nat -> List Chg} {k : Nat -> Nat} (h : LogOk L) {n : Nat} (hn : n < 3) (hk : (L n).length <= k n) (kind : Int) (c : Con) :
 (nextC (hist L k) n kind c).org = n /\ (nextC (hist L k) n kind c).cnt = (L n).length + 1 /\ ∀ y ∈ hist L k, y.stp < (nextC (hist L k) n kind c).stp := by
 obtain ⟨h1, _, _, _, h5, h6, h7, h8⟩ := nxtF_spec (hist L k) ⟨n, 1, 1, kind, c⟩
 refine ⟨h1, ?_, h5⟩
 have a := h8 ((L n).length + 1) (by dsimp only; omega) (fun y hy ho => by
  obtain ⟨i, hi, _, rfl⟩ := hist_own h hy ho
  rw [h.cnt]; omega)
 unfold nextC
 rcases Nat.eq_zero_or_pos (L n).length with h0 | h0
 ·dsimp only at h6; omega
 ·have hm := own_hist (L := L) (k := k) hn (i := (L n).length - 1) (by omega) (by omega)
  have b := h7 _ hm (by rw [h.org])
  rw [h.cnt] at b
  omega
def updL (L : Nat -> List Chg) (n : Nat) (x : Chg) : Nat -> List Chg := fun o => if o = n then L o ++ [x] else L o
def updK (k : Nat -> Nat) (n v : Nat) : Nat -> Nat := fun o => if o = n then v else k o
theorem updL_ok {L : Nat -> List Chg} (h : LogOk L) {n : Nat} {x : Chg} (h1 : x.org = n) (h2 : x.cnt = (L n).length + 1) (h3 : x.ok 4 = true) (h4 : ∀ y ∈ L n, y.stp < x.stp) : LogOk (updL L n x) := by
 have key : ∀ o (i : Nat) (hi : i < (updL L n x o).length), (∃ h : i < (L o).length, (updL L n x o)[i] = (L o)[i]) ∨ (o = n /\ i = (L n).length /\ (updL L n x o)[i] = x) := by
  intro o i hi
  by_cases e : o = n
  ·subst e
   simp only [updL, if_true] at hi ⊢
   rcases Nat.lt_or_ge i (L o).length with h | h
   ·exact .inl ⟨h, List.getElem_append_left h⟩
   ·rw [List.length_append, List.length_singleton] at hi
    have : i = (L o).length := by omega
    subst this
    exact .inr ⟨by trivial, rfl, by simp⟩
  ·have e2 : updL L n x o = L o := if_neg e
   simp only [e2] at hi ⊢
   exact .inl ⟨hi, by trivial⟩
 refine ⟨?_, ?_, ?_, ?_⟩
 ·intro o i hi
  rcases key o i hi with ⟨h', e⟩ | ⟨rfl, rfl, e⟩
  ·rw [e, h.org]
  ·rw [e, h1]
 ·intro o i hi
  rcases key o i hi with ⟨h', e⟩ | ⟨rfl, rfl, e⟩
  ·rw [e, h.cnt]
  ·rw [e, h2]
 ·intro o ho y hy
  unfold updL at hy
  split at hy
  ·rcases List.mem_append.1 hy with hy | hy
   ·exact h.ok o ho y hy
   ·rw [List.mem_singleton.1 hy]; exact h3
  ·exact h.ok o ho y hy
 ·intro o i hi
  rcases key o i (by omega) with ⟨h', e⟩ | ⟨rfl, rfl, e⟩
  ·rcases key o (i + 1) hi with ⟨h'', e'⟩ | ⟨rfl, e0, e'⟩
   ·rw [e, e']; exact h.asc o i h''
   ·rw [e, e']; exact h4 _ (List.getElem_mem h')
  ·simp only [updL, if_true, List.length_append, List.length_singleton] at hi
   omega
theorem hist_upd {L : Nat -> List Chg} {k : Nat -> Nat} (n : Nat) (x : Chg) (hk : ∀ o, k o <= (L o).length) : hist (updL L n x) k = hist L k := by
 have e : ∀ o, (updL L n x o).take (k o) = (L o).take (k o) := fun o => by
  unfold updL
  split
  ·rw [List.take_append_of_le_length (hk o)]
  ·rfl
 unfold hist
 rw [e, e, e]
theorem hist_more {L : Nat -> List Chg} {k : Nat -> Nat} {n : Nat} (hn : n < 3) (x : Chg) (hkn : k n = (L n).length) (y : Chg) : y ∈ hist L k ++ [x] ↔ y ∈ hist (updL L n x) (updK k n ((L n).length + 1)) := by
 rw [List.mem_append, List.mem_singleton]
 have hlen : (updL L n x n).length = (L n).length + 1 := by simp [updL]
 constructor
 ·rintro (h | rfl)
  ·obtain ⟨o, ho, h⟩ := hist_mem.1 h
   refine hist_mem.2 ⟨o, ho, ?_⟩
   unfold updL updK
   split
   ·rename_i e
    subst e
    have := List.mem_of_mem_take h
    rw [List.take_of_length_le (by simp)]
    simp [this]
   ·exact h
  ·refine hist_mem.2 ⟨n, hn, ?_⟩
   unfold updL updK
   rw [if_pos rfl, if_pos rfl, List.take_of_length_le (by simp)]
   simp
 ·intro h
  obtain ⟨o, ho, h⟩ := hist_mem.1 h
  unfold updL updK at h
  split at h
  ·rename_i e
   subst e
   rw [List.take_of_length_le (by simp)] at h
   rcases List.mem_append.1 h with h | h
   ·exact .inl (hist_mem.2 ⟨o, ho, by rw [hkn, List.take_length]; exact h⟩)
   ·exact .inr (List.mem_singleton.1 h)
  ·exact .inl (hist_mem.2 ⟨o, ho, h⟩)
theorem hist_len {L : Nat -> List Chg} {k : Nat -> Nat} (hk : ∀ o, k o <= (L o).length) : (hist L k).length = k 0 + (k 1 + k 2) := by
 simp only [hist, List.length_append, List.length_take]
 have := hk 0
 have := hk 1
 have := hk 2
 omega
theorem chkC_ok {n : Int} : ∀ {l pre : List Con}, (∀ c ∈ l, c.Ok /\ c.src < n /\ c.dst < n) -> (pre ++ l).Pairwise (fun a b => a.overlapB b = false) -> Pln.chkC n pre l = 0
 | [], _, _, _ => rfl
 | c :: l, pre, h, hp => by
   have hc := h c (by simp)
   have h2 : ∀ d ∈ pre, d.overlapB c = false := fun d hd => (List.pairwise_append.1 hp).2.2 d hd c (by simp)
   unfold Pln.chkC
   rw [if_pos ((Con.check_iff c).2 hc.1), if_neg (by omega), if_neg]
   ·refine chkC_ok (fun d hd => h d (by simp [hd])) ?_
    rw [List.append_assoc]
    exact hp
   ·rw [Bool.not_eq_true, List.any_eq_false]
    intro d hd
    rw [overlap_comm, h2 d hd]
    simp
theorem plan_ok {p : Pln} (h1 : 1 <= p.quo.length) (h2 : p.quo.length <= 16) (h3 : ∀ q ∈ p.quo, 0 <= q /\ q <= 1073741824) (h4 : p.cons.length <= 64) (h5 : ∀ c ∈ p.cons, c.Ok /\ c.src < p.quo.length /\ c.dst < p.quo.length) (h6 : p.cons.Pairwise (fun a b => a.overlapB b = false)) : p.chk = 0 := by
 unfold Pln.chk
 rw [if_neg, if_neg]
 ·exact chkC_ok h5 (by simpa using h6)
 ·rw [Bool.not_eq_true, List.any_eq_false]
  intro q hq
  have := h3 q hq
  simp only [quoB, Bool.or_eq_true, decide_eq_true_eq]
  omega
 ·simp only [Pln.lim, Bool.or_eq_true, decide_eq_true_eq]
  omega
def keepC (l : List Con) : List Con := l.foldl (fun o c => if o.any (fun d => d.overlapB c) then o else o ++ [c]) []
theorem keepF_spec : ∀ (l o : List Con), o.Pairwise (fun a b => a.overlapB b = false) -> (l.foldl (fun o c => if o.any (fun d => d.overlapB c) then o else o ++ [c]) o).Pairwise (fun a b => a.overlapB b = false) /\ (∀ c ∈ l.foldl (fun o c => if o.any (fun d => d.overlapB c) then o else o ++ [c]) o, c ∈ o ∨ c ∈ l) /\ (l.foldl (fun o c => if o.any (fun d => d.overlapB c) then o else o ++ [c]) o).length <= o.length + l.length
 | [], o, h => ⟨h, fun c hc => .inl hc, by simp⟩
 | x :: l, o, h => by
   rw [List.foldl_cons]
   by_cases e : o.any (fun d => d.overlapB x) = true
   ·rw [if_pos e]
    obtain ⟨h1, h2, h3⟩ := keepF_spec l o h
    exact ⟨h1, fun c hc => (h2 c hc).imp id (fun h => by simp [h]), by rw [List.length_cons]; omega⟩
   ·rw [if_neg e]
    have e' : ∀ d ∈ o, d.overlapB x = false := by
     rw [Bool.not_eq_true, List.any_eq_false] at e
     intro d hd
     have := e d hd
     simpa using this
    obtain ⟨h1, h2, h3⟩ := keepF_spec l (o ++ [x]) (List.pairwise_append.2 ⟨h, by simp, fun a ha b hb => by rw [List.mem_singleton.1 hb]; exact e' a ha⟩)
    refine ⟨h1, fun c hc => ?_, by rw [List.length_append, List.length_singleton] at h3; rw [List.length_cons]; omega⟩
    rcases h2 c hc with h | h
    ·rcases List.mem_append.1 h with h | h
     ·exact .inl h
     ·exact .inr (by rw [List.mem_singleton.1 h]; simp)
    ·exact .inr (by simp [h])
end Go.Proofs.YtemkpimngbbpkaaGreat
namespace Go.Proofs.YtemkpimngbbpkaaGreat
set_option linter.unusedVariables false
set_option linter.unusedSimpArgs false
open Go.RowKit
def knS (v : List Int) (x : Chg) : List Int := v.set x.org.toNat x.cnt
def knownL (l : List Chg) (n : Nat) : List Int := l.foldl knS (List.replicate n 0)
theorem knF_len : ∀ (l : List Chg) (v : List Int), (l.foldl knS v).length = v.length
 | [], _ => rfl
 | x :: r, v => by rw [List.foldl_cons, knF_len r]; unfold knS; rw [List.length_set]
theorem kn_seg {o : Nat} : ∀ (m : List Chg) (v : List Int), (∀ x ∈ m, x.org = o) -> m.foldl knS v = match m.getLast? with | none => v | some y => v.set o y.cnt
 | [], _, _ => rfl
 | x :: r, v, h => by
   have hx : x.org.toNat = o := by have := h x (by simp); omega
   rw [List.foldl_cons, kn_seg r _ (fun y hy => h y (by simp [hy]))]
   unfold knS
   rw [hx]
   cases r with
   | nil => rfl
   | cons z t =>
     rw [List.getLast?_cons_cons, List.getLast?_eq_some_getLast (show z :: t ≠ [] by simp)]
     dsimp only
     rw [List.set_set]
theorem kn_take {L : Nat -> List Chg} (h : LogOk L) {o k : Nat} (hk : k <= (L o).length) (v : List Int) : ((L o).take k).foldl knS v = if k = 0 then v else v.set o (k : Int) := by
 rw [kn_seg (o := o) _ _ (fun x hx => by
  obtain ⟨i, hi, e⟩ := List.getElem_of_mem hx
  rw [<- e, List.getElem_take, h.org])]
 rcases Nat.eq_zero_or_pos k with h0 | h0
 ·subst h0
  rfl
 ·have hl : ((L o).take k).length = k := by rw [List.length_take]; omega
  have hne : (L o).take k ≠ [] := by intro e; rw [e] at hl; simp at hl; omega
  rw [List.getLast?_eq_some_getLast hne, if_neg (by omega)]
  dsimp only
  rw [List.getLast_eq_getElem, List.getElem_take, h.cnt]
  congr 1
  omega
theorem knownL_hist {L : Nat -> List Chg} (h : LogOk L) {k : Nat -> Nat} (hk : ∀ o, k o <= (L o).length) : knownL (hist L k) 4 = [(k 0 : Int), (k 1 : Int), (k 2 : Int), 0] := by
 unfold knownL hist
 rw [List.foldl_append, List.foldl_append, kn_take h (hk 0), kn_take h (hk 1), kn_take h (hk 2)]
 have e : List.replicate 4 (0 : Int) = [0, 0, 0, 0] := rfl
 rw [e]
 split <;> split <;> split <;> simp_all
def missL (l : List Chg) (v : List Int) : List Chg := l.filter fun x => decide (gi v x.org < x.cnt)
theorem miss_sub {l : List Chg} {v : List Int} : ∀ x ∈ missL l v, x ∈ l := fun x hx => (List.mem_filter.1 hx).1
theorem miss_all {L : Nat -> List Chg} (h : LogOk L) {k k' : Nat -> Nat} : ∀ x ∈ hist L k', x ∈ hist L k ∨ x ∈ missL (hist L k') [(k 0 : Int), (k 1 : Int), (k 2 : Int), 0] := by
 intro x hx
 obtain ⟨o, ho, h1⟩ := hist_mem.1 hx
 obtain ⟨i, hi, hik, e⟩ := take_mem.1 h1
 rcases Nat.lt_or_ge i (k o) with h2 | h2
 ·exact .inl (hist_mem.2 ⟨o, ho, take_mem.2 ⟨i, hi, h2, e⟩⟩)
 ·refine .inr (List.mem_filter.2 ⟨hx, ?_⟩)
  have h3 := h.org o i hi
  have h4 := h.cnt o i hi
  rw [e] at h3 h4
  rw [h3, h4]
  rcases (show o = 0 ∨ o = 1 ∨ o = 2 by omega) with rfl | rfl | rfl <;> simp [gi] <;> omega
end Go.Proofs.YtemkpimngbbpkaaGreat
namespace Go.Proofs.YtemkpimngbbpkaaGreat
set_option linter.unusedVariables false
set_option linter.unusedSimpArgs false
open Go.RowKit
def lastOr (y : Chg) (r : List Chg) : Chg := r.getLast?.getD y
theorem lastOr_cons (y z : Chg) (r : List Chg) : lastOr y (z :: r) = lastOr z r := by
 unfold lastOr
 cases r with
 | nil => rfl
 | cons a t => rw [List.getLast?_cons_cons, List.getLast?_eq_some_getLast (show a :: t ≠ [] by simp)]; rfl
theorem cmpF_snoc : ∀ (r : List Chg) (y x : Chg), cmpF y (r ++ [x]) = cmpF y r ++ (if chgEq x (lastOr y r) then [] else [x])
 | [], y, x => by
   show (if chgEq x y then cmpF x [] else x :: cmpF x []) = [] ++ (if chgEq x y then [] else [x])
   split <;> rfl
 | z :: r, y, x => by
   rw [lastOr_cons]
   show (if chgEq z y then cmpF z (r ++ [x]) else z :: cmpF z (r ++ [x])) = (if chgEq z y then cmpF z r else z :: cmpF z r) ++ _
   rw [cmpF_snoc r z x]
   split <;> rfl
theorem cmpct_step {l : List Chg} {j : Nat} (h : j + 1 < l.length) : cmpct (l.take (j + 2)) = if chgEq l[j + 1] l[j] then cmpct (l.take (j + 1)) else cmpct (l.take (j + 1)) ++ [l[j + 1]] := by
 have e : l.take (j + 2) = l.take (j + 1) ++ [l[j + 1]] := (List.take_append_getElem h).symm
 rw [e]
 obtain ⟨y, r, hr⟩ : ∃ y r, l.take (j + 1) = y :: r := by
  cases hh : l.take (j + 1) with
  | nil => have := congrArg List.length hh; rw [List.length_take, List.length_nil, Nat.min_eq_left (by omega)] at this; omega
  | cons y r => exact ⟨y, r, rfl⟩
 have hlast : lastOr y r = l[j] := by
  have h1 : (l.take (j + 1)).getLast? = some l[j] := by
   rw [List.getLast?_eq_getElem?, List.length_take, Nat.min_eq_left (by omega), List.getElem?_take_of_lt (by omega), List.getElem?_eq_getElem (by omega)]
   rfl
  rw [hr] at h1
  have h2 := lastOr_cons y y r
  unfold lastOr at h2 ⊢
  rw [h1] at h2
  exact h2.symm
 rw [hr]
 have hx := cmpF_snoc r y l[j + 1]
 rw [hlast] at hx
 generalize l[j + 1] = x at *
 generalize l[j] = z at *
 by_cases hc : chgEq x z = true
 ·rw [if_pos hc] at hx ⊢
  rw [List.append_nil] at hx
  exact congrArg (y :: ·) hx
 ·rw [if_neg hc] at hx ⊢
  exact congrArg (y :: ·) hx
theorem cmpct_one {l : List Chg} (h : l.length < 2) : cmpct l = l := by
 cases l with
 | nil => rfl
 | cons x r =>
   cases r with
   | nil => rfl
   | cons y t => rw [List.length_cons, List.length_cons] at h; omega
theorem cmpct_take1 {l : List Chg} (h : 0 < l.length) : cmpct (l.take 1) = l.take 1 := by
 cases l with
 | nil => simp at h
 | cons x r => rfl
end Go.Proofs.YtemkpimngbbpkaaGreat
namespace Go.Proofs.YtemkpimngbbpkaaGreat
set_option linter.unusedVariables false
set_option linter.unusedSimpArgs false
open Go.RowKit
structure PlayS (t : Nat) (L : Nat -> List Chg) (K : Nat -> Nat -> Nat) : Prop where
 log : LogOk L
 own : ∀ n, n < 3 -> K n n = (L n).length
 le : ∀ n o, n < 3 -> K n o <= (L o).length
 len : (L 0).length + ((L 1).length + (L 2).length) <= t
 oth : ∀ o, 3 <= o -> L o = []
theorem playS_start (t : Nat) : PlayS t (fun _ => []) (fun _ _ => 0) :=
 ⟨⟨fun o i h => by simp at h, fun o i h => by simp at h, fun o _ x h => by simp at h, fun o i h => by simp at h⟩, fun _ _ => rfl, fun _ _ _ => Nat.zero_le _, by simp, fun _ _ => rfl⟩
section
variable {t : Nat} {L : Nat -> List Chg} {K : Nat -> Nat -> Nat}
theorem PlayS.hlen (h : PlayS t L K) (ht : t <= 1000) (o : Nat) : (L o).length <= 1000000 := by
 have := h.len
 rcases (show o = 0 ∨ o = 1 ∨ o = 2 ∨ 3 <= o by omega) with rfl | rfl | rfl | h3
 ·omega
 ·omega
 ·omega
 ·rw [h.oth o h3]; simp
theorem PlayS.hl (h : PlayS t L K) {k : Nat -> Nat} (hk : ∀ o, k o <= (L o).length) : (hist L k).length <= t := by
 rw [hist_len hk]
 have := h.len
 have := hk 0
 have := hk 1
 have := hk 2
 omega
theorem PlayS.more (h : PlayS t L K) {t' : Nat} (ht : t <= t') : PlayS t' L K := ⟨h.log, h.own, h.le, Nat.le_trans h.len ht, h.oth⟩
def getK (K : Nat -> Nat -> Nat) (n m : Nat) : Nat -> Nat -> Nat := fun p => if p = n then kmax (K n) (K m) else K p
theorem PlayS.get (h : PlayS t L K) {n m : Nat} (hn : n < 3) (hm : m < 3) : PlayS t L (getK K n m) := by
 refine ⟨h.log, fun p hp => ?_, fun p o hp => ?_, h.len, h.oth⟩
 ·unfold getK
  split
  ·rename_i e
   subst e
   have h1 := h.own p hp
   have h2 := h.le m p hm
   unfold kmax
   omega
  ·exact h.own p hp
 ·unfold getK
  split
  ·have h1 := h.le n o hn
   have h2 := h.le m o hm
   unfold kmax
   omega
  ·exact h.le p o hp
theorem getK_self (n m : Nat) : getK K n m n = kmax (K n) (K m) := by unfold getK; rw [if_pos rfl]
theorem getK_other {n m p : Nat} (h : p ≠ n) : getK K n m p = K p := by unfold getK; rw [if_neg h]
def pltK (L : Nat -> List Chg) (K : Nat -> Nat -> Nat) (n : Nat) : Nat -> Nat -> Nat := fun p => if p = n then updK (K n) n ((L n).length + 1) else K p
theorem pltK_self (n : Nat) : pltK L K n n = updK (K n) n ((L n).length + 1) := by unfold pltK; rw [if_pos rfl]
theorem pltK_other {n p : Nat} (h : p ≠ n) : pltK L K n p = K p := by unfold pltK; rw [if_neg h]
theorem own_mem (h : PlayS t L K) {n : Nat} (hn : n < 3) {y : Chg} (hy : y ∈ L n) : y ∈ hist L (K n) := by
 obtain ⟨i, hi, rfl⟩ := List.mem_iff_getElem.1 hy
 exact own_hist hn hi (by rw [h.own n hn]; exact hi)
theorem updL_len (n : Nat) (x : Chg) (o : Nat) : (updL L n x o).length = (L o).length + if o = n then 1 else 0 := by
 unfold updL
 split
 ·simp
 ·simp
theorem PlayS.put (h : PlayS t L K) {n : Nat} (hn : n < 3) {kind : Int} {c : Con} {x : Chg} (hx : nextC (hist L (K n)) n kind c = x) (hok : x.ok 4 = true) : PlayS (t + 1) (updL L n x) (pltK L K n) := by
 obtain ⟨h1, h2, h3⟩ := next_hist (k := K n) h.log hn (by rw [h.own n hn]; exact Nat.le_refl _) kind c
 rw [hx] at h1 h2 h3
 refine ⟨updL_ok h.log h1 h2 hok (fun y hy => h3 y (own_mem h hn hy)), fun p hp => ?_, fun p o hp => ?_, ?_, fun o ho => ?_⟩
 ·rw [updL_len]
  unfold pltK
  split
  ·rename_i e
   subst e
   simp [updK]
  ·rename_i e
   simp [e]
   exact h.own p hp
 ·rw [updL_len]
  unfold pltK
  split
  ·rename_i e
   subst e
   unfold updK
   split
   ·rename_i e
    subst e
    simp
   ·exact Nat.le_trans (h.le p o hp) (Nat.le_add_right _ _)
  ·exact Nat.le_trans (h.le p o hp) (Nat.le_add_right _ _)
 ·rw [updL_len, updL_len, updL_len]
  have := h.len
  rcases (show n = 0 ∨ n = 1 ∨ n = 2 by omega) with rfl | rfl | rfl <;> simp <;> omega
 ·unfold updL
  rw [if_neg (by omega)]
  exact h.oth o ho
theorem PlayS.sorted (h : PlayS t L K) {n : Nat} (hn : n < 3) {kind : Int} {c : Con} {x : Chg} (hx : nextC (hist L (K n)) n kind c = x) (hok : x.ok 4 = true) {ts : List Chg} (hp : ts.Perm (hist L (K n) ++ [x])) (hs : ts.Pairwise Chg.le) :
 ts = hist (updL L n x) (pltK L K n n) := by
 obtain ⟨h1, h2, h3⟩ := next_hist (k := K n) h.log hn (by rw [h.own n hn]; exact Nat.le_refl _) kind c
 rw [hx] at h1 h2 h3
 have hd : (hist L (K n) ++ [x]).Pairwise (fun a b => ¬ (a.org = b.org /\ a.cnt = b.cnt)) := by
  refine List.pairwise_append.2 ⟨(hist_pw h.log (K n)).imp (fun {a b} hab => by unfold Chg.lt at hab; omega), by simp, fun a ha b hb => ?_⟩
  rw [List.mem_singleton.1 hb]
  rintro ⟨e1, e2⟩
  obtain ⟨i, hi, _, rfl⟩ := hist_own h.log ha (e1.trans h1)
  rw [h.log.cnt] at e2
  omega
 have hd2 := hd.perm hp.symm (fun {a b} hab hba => hab ⟨hba.1.symm, hba.2.symm⟩)
 have hlt : ts.Pairwise Chg.lt := (hs.and hd2).imp (fun {a b} hab => by
  obtain ⟨u, v⟩ := hab
  unfold Chg.le Chg.lt at *
  omega)
 rw [pltK_self]
 refine strict_eq hlt (hist_pw (h.put hn hx hok).log _) (fun y => ?_)
 rw [hp.mem_iff]
 exact hist_more hn x (h.own n hn) y
theorem PlayS.other (h : PlayS t L K) {n p : Nat} (hp : p < 3) (hpn : p ≠ n) (x : Chg) : hist (updL L n x) (pltK L K n p) = hist L (K p) := by
 rw [pltK_other hpn]
 exact hist_upd n x (fun o => h.le p o hp)
def Full (L : Nat -> List Chg) (k : Nat -> Nat) : Prop := ∀ o, o < 3 -> k o = (L o).length
theorem full_hist {k k' : Nat -> Nat} (h : Full L k) (h' : Full L k') : hist L k = hist L k' := by
 unfold hist
 rw [h 0 (by omega), h 1 (by omega), h 2 (by omega), h' 0 (by omega), h' 1 (by omega), h' 2 (by omega)]
theorem full_mem {k k' : Nat -> Nat} (h : Full L k) {x : Chg} (hx : x ∈ hist L k') : x ∈ hist L k := by
 obtain ⟨o, ho, hx⟩ := hist_mem.1 hx
 refine hist_mem.2 ⟨o, ho, ?_⟩
 rw [h o ho, List.take_length]
 exact List.mem_of_mem_take hx
theorem PlayS.got (h : PlayS t L K) {n m : Nat} (hn : n < 3) (hm : m < 3) (hg : ∀ o, o < m -> K n o = (L o).length) : ∀ o, o < m + 1 -> getK K n m n o = (L o).length := by
 intro o ho
 rw [getK_self]
 have h1 := h.own m hm
 have h2 := h.le n o hn
 have h3 := h.le m o hm
 unfold kmax
 rcases (show o < m ∨ o = m by omega) with h4 | rfl
 ·have := hg o h4; omega
 ·omega
end
end Go.Proofs.YtemkpimngbbpkaaGreat
namespace Go.Proofs.YtemkpimngbbpkaaGreat
set_option linter.unusedVariables false
set_option linter.unusedSimpArgs false
open Go.RowKit
end Go.Proofs.YtemkpimngbbpkaaGreat
namespace Go.Proofs.YtemkpimngbbpkaaGreat
set_option linter.unusedVariables false
set_option linter.unusedSimpArgs false
open Go.RowKit
end Go.Proofs.YtemkpimngbbpkaaGreat
