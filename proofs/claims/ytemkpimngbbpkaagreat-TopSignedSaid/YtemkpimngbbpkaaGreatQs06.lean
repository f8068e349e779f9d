/- Layers 27, 35: bookings and free intervals as plain data. · Layers 27, 35: valid, compare, Busy. · Layers 27, 35: Check and check of bookings. · Layers 27, 35: free. · Layers 27, 29, 35: Fit, Hop, hop. -/
import Derived.Deep.RegionHeld3
import Derived.BigQuiet
import Derived.Laws.ResultCell
import Derived.Test.YtemkpimngbbpkaaGreatQs03
import Derived.Test.YtemkpimngbbpkaaGreatQs04
import Derived.Test.YtemkpimngbbpkaaGreatQs05
namespace Go.Proofs.YtemkpimngbbpkaaGreat
set_option linter.unusedVariables false
set_option linter.unusedSimpArgs false
section
open Go.RowKit
structure Bk where
 con : Int
 beg : Int
 en : Int
 tic : Int
def Bk.cells (b : Bk) : List Value := [.int .i64 b.con, .int .i64 b.beg, .int .i64 b.en, .int .i64 b.tic]
def Bk.val (b : Bk) : Value := .agg #[.int .i64 b.con, .int .i64 b.beg, .int .i64 b.en, .int .i64 b.tic]
def EBk : Elt Bk := ⟨Bk.cells, 4, fun _ => rfl, by omega, fun x u hu => by simp [Bk.cells] at hu; rcases hu with h | h | h | h <;> subst h <;> rfl⟩
theorem Rd.bk {w : World} {A : Option Addr} {l : List Bk} (h : Rd EBk w A l) {k : Nat} (hk : k < l.length) : ∃ b o, A = some ⟨b, o, none⟩ /\ b < w.heap.size /\
 w.cell? ⟨b, o + k * 4, none⟩ = some (.int .i64 l[k].con) /\ w.cell? ⟨b, o + k * 4 + 1, none⟩ = some (.int .i64 l[k].beg) /\ w.cell? ⟨b, o + k * 4 + 2, none⟩ = some (.int .i64 l[k].en) /\ w.cell? ⟨b, o + k * 4 + 3, none⟩ = some (.int .i64 l[k].tic) := by
 obtain ⟨b, o, rfl, hb, hc⟩ := h.at hk
 exact ⟨b, o, rfl, hb, hc 0 _ rfl, hc 1 _ rfl, hc 2 _ rfl, hc 3 _ rfl⟩
structure Spn where
 fr : Int
 til : Int
def Spn.cells (b : Spn) : List Value := [.int .i64 b.fr, .int .i64 b.til]
def ESpn : Elt Spn := ⟨Spn.cells, 2, fun _ => rfl, by omega, fun x u hu => by simp [Spn.cells] at hu; rcases hu with h | h <;> subst h <;> rfl⟩
theorem Rd.spn {w : World} {A : Option Addr} {l : List Spn} (h : Rd ESpn w A l) {k : Nat} (hk : k < l.length) : ∃ b o, A = some ⟨b, o, none⟩ /\ b < w.heap.size /\
 w.cell? ⟨b, o + k * 2, none⟩ = some (.int .i64 l[k].fr) /\ w.cell? ⟨b, o + k * 2 + 1, none⟩ = some (.int .i64 l[k].til) := by
 obtain ⟨b, o, rfl, hb, hc⟩ := h.at hk
 exact ⟨b, o, rfl, hb, hc 0 _ rfl, hc 1 _ rfl⟩
def gbk (l : List Bk) (i : Nat) : Bk := l.getD i ⟨0, 0, 0, 0⟩
theorem gbk_get {l : List Bk} {i : Nat} (h : i < l.length) : gbk l i = l[i] := by simp [gbk, h]
def cmpI (x y : Int) : Int := if x < y then -1 else if y < x then 1 else 0
theorem cmpI_zero {x y : Int} : cmpI x y = 0 ↔ x = y := by unfold cmpI; split <;> (try split) <;> omega
def orL : List Int -> Int
 | [] => 0
 | x :: l => if x = 0 then orL l else x
def Pln.bkOk (p : Pln) (b : Bk) : Bool := decide (0 <= b.con /\ b.con < p.cons.length /\ 0 <= b.tic /\ b.tic <= 1152921504606846976 /\ (gc p.cons b.con).st <= b.beg /\ b.beg < b.en /\ b.en <= (gc p.cons b.con).en)
def bkCmp (a b : Bk) : Int := orL [cmpI a.con b.con, cmpI a.beg b.beg]
def Pln.bkAt (p : Pln) (l : List Bk) (i : Nat) : Int :=
 if p.bkOk (gbk l i) = false then 2 else if i = 0 then 0 else if 0 <= bkCmp (gbk l (i - 1)) (gbk l i) then 9 else if (gbk l (i - 1)).con = (gbk l i).con /\ (gbk l i).beg < (gbk l (i - 1)).en then 14 else 0
def Pln.bkErr (p : Pln) (l : List Bk) : Nat -> Int
 | 0 => 0
 | k + 1 => if p.bkErr l k = 0 then p.bkAt l k else p.bkErr l k
theorem Pln.bkErr_up {p : Pln} {l : List Bk} {k : Nat} (h : p.bkErr l k ≠ 0) : ∀ d, p.bkErr l (k + d) = p.bkErr l k
 | 0 => rfl
 | d + 1 => by
   have e := Pln.bkErr_up h d
   show (if p.bkErr l (k + d) = 0 then _ else p.bkErr l (k + d)) = _
   rw [if_neg (by rw [e]; exact h), e]
theorem Pln.bkErr_to {p : Pln} {l : List Bk} {k n : Nat} (h : p.bkErr l k ≠ 0) (hk : k <= n) : p.bkErr l n = p.bkErr l k := by
 obtain ⟨d, rfl⟩ : ∃ d, n = k + d := ⟨n - k, by omega⟩
 exact Pln.bkErr_up h d
theorem Pln.bkErr_step {p : Pln} {l : List Bk} {k n : Nat} (h : p.bkErr l k = 0) (hk : k < n) (he : p.bkAt l k ≠ 0) : p.bkErr l n = p.bkAt l k := by
 have e : p.bkErr l (k + 1) = p.bkAt l k := by show (if p.bkErr l k = 0 then _ else _) = _; rw [if_pos h]
 rw [<- e]
 exact Pln.bkErr_to (by rw [e]; exact he) (by omega)
theorem Pln.bkErr_next {p : Pln} {l : List Bk} {k : Nat} (h : p.bkErr l k = 0) (he : p.bkAt l k = 0) : p.bkErr l (k + 1) = 0 := by
 show (if p.bkErr l k = 0 then _ else _) = _; rw [if_pos h, he]
def Pln.bkChk (p : Pln) (l : List Bk) : Int := if p.chk = 0 then (if 512 < l.length then 4 else p.bkErr l l.length) else 1
theorem Pln.bkErr_ok {p : Pln} {l : List Bk} : ∀ {j : Nat}, p.bkErr l j = 0 -> ∀ (k : Nat) (hk : k < l.length), k < j -> p.bkOk l[k] = true
 | 0, _, k, hk, h => by omega
 | j + 1, h, k, hk, hkj => by
   have h0 : p.bkErr l j = 0 := by
    apply Classical.byContradiction
    intro hn
    have := Pln.bkErr_to (n := j + 1) hn (by omega)
    exact hn (this.symm.trans h)
   by_cases e : k < j
   ·exact Pln.bkErr_ok h0 k hk e
   ·have e2 : k = j := by omega
    subst e2
    have h2 : p.bkAt l k = 0 := by
     have h3 : p.bkErr l (k + 1) = if p.bkErr l k = 0 then p.bkAt l k else p.bkErr l k := rfl
     rw [if_pos h0] at h3
     exact h3.symm.trans h
    unfold Pln.bkAt at h2
    rw [gbk_get hk] at h2
    cases hb : p.bkOk l[k]
    ·rw [if_pos hb] at h2; omega
    ·rfl
theorem Pln.bkChk_ok {p : Pln} {l : List Bk} (h : p.bkChk l = 0) : p.chk = 0 /\ l.length <= 512 /\ ∀ b ∈ l, p.bkOk b = true := by
 unfold Pln.bkChk at h
 split at h
 ·rename_i h1
  split at h
  ·omega
  ·rename_i h2
   refine ⟨h1, by omega, fun b hb => ?_⟩
   obtain ⟨i, hi, rfl⟩ := List.getElem_of_mem hb
   exact Pln.bkErr_ok h i hi hi
 ·omega
def busyL (l : List Bk) (i : Int) : List Spn := (l.filter (fun b => b.con == i)).map (fun b => ⟨b.beg, b.en⟩)
theorem busyL_snoc (l : List Bk) (i : Int) (b : Bk) : busyL (l ++ [b]) i = if b.con = i then busyL l i ++ [⟨b.beg, b.en⟩] else busyL l i := by
 unfold busyL
 rw [List.filter_append, List.map_append]
 by_cases h : b.con = i <;> simp [h]
theorem busyL_mem {l : List Bk} {i : Int} {x : Spn} (h : x ∈ busyL l i) : ∃ b ∈ l, b.con = i /\ x = ⟨b.beg, b.en⟩ := by
 unfold busyL at h
 rw [List.mem_map] at h
 obtain ⟨b, hb, rfl⟩ := h
 rw [List.mem_filter] at hb
 exact ⟨b, hb.1, by simpa using hb.2, rfl⟩
theorem busyL_len (l : List Bk) (i : Int) : (busyL l i).length <= l.length := by
 unfold busyL
 rw [List.length_map]
 exact List.length_filter_le _ _
def addS (at_ u : Int) (out : List Spn) : List Spn := if at_ < u then out ++ [⟨at_, u⟩] else out
theorem addS_len (at_ u : Int) (out : List Spn) : (addS at_ u out).length <= out.length + 1 := by unfold addS; split <;> simp
def freeStep (s : Int × List Spn) (x : Spn) : Int × List Spn := (max s.1 x.til, addS s.1 x.fr s.2)
def freeW (c : Con) (l : List Bk) (i t : Int) : Int × List Spn := (busyL l i).foldl freeStep (max c.st t, [])
def freeL (c : Con) (l : List Bk) (i t : Int) : List Spn := addS (freeW c l i t).1 c.en (freeW c l i t).2
theorem foldl_len : ∀ (m : List Spn) (s : Int × List Spn), (m.foldl freeStep s).2.length <= s.2.length + m.length
 | [], s => by simp
 | x :: m, s => by
   have h := foldl_len m (freeStep s x)
   have h2 := addS_len s.1 x.fr s.2
   show (m.foldl freeStep (freeStep s x)).2.length <= _
   simp only [List.length_cons]
   simp only [freeStep] at h
   simp only [freeStep]
   omega
theorem freeL_len (c : Con) (l : List Bk) (i t : Int) : (freeL c l i t).length <= l.length + 1 := by
 have h1 := addS_len (freeW c l i t).1 c.en (freeW c l i t).2
 have h2 := foldl_len (busyL l i) (max c.st t, [])
 have h3 := busyL_len l i
 unfold freeL
 unfold freeW at h1 ⊢
 simp only [List.length_nil] at h2
 omega
def SpI (lo hi : Int) (s : Int × List Spn) : Prop := lo <= s.1 /\ ∀ x ∈ s.2, lo <= x.fr /\ x.fr < x.til /\ x.til <= hi
theorem SpI.step {lo hi : Int} {s : Int × List Spn} {x : Spn} (h : SpI lo hi s) (hx : x.til <= hi) (hf : x.fr < x.til) : SpI lo hi (freeStep s x) := by
 refine ⟨by have := h.1; simp only [freeStep]; omega, fun y hy => ?_⟩
 simp only [freeStep, addS] at hy
 split at hy
 ·rename_i hl
  rw [List.mem_append] at hy
  rcases hy with hy | hy
  ·exact h.2 y hy
  ·simp at hy
   subst hy
   exact ⟨h.1, hl, by show x.fr <= hi; omega⟩
 ·exact h.2 y hy
theorem SpI.fold {lo hi : Int} : ∀ (m : List Spn) (s : Int × List Spn), (∀ x ∈ m, x.til <= hi /\ x.fr < x.til) -> SpI lo hi s -> SpI lo hi (m.foldl freeStep s)
 | [], s, _, h => h
 | x :: m, s, hm, h => SpI.fold m _ (fun y hy => hm y (by simp [hy])) (h.step (hm x (by simp)).1 (hm x (by simp)).2)
def BkIn (c : Con) (l : List Bk) (i : Int) : Prop := ∀ b ∈ l, b.con = i -> c.st <= b.beg /\ b.beg < b.en /\ b.en <= c.en
theorem bkIn_of {p : Pln} {l : List Bk} (h : p.bkChk l = 0) (i : Int) : BkIn (gc p.cons i) l i := fun b hb hi => by
 have := (Pln.bkChk_ok h).2.2 b hb
 unfold Pln.bkOk at this
 rw [decide_eq_true_eq] at this
 subst hi
 omega
theorem freeW_in {c : Con} {l : List Bk} {i t : Int} (h : BkIn c l i) : SpI (max c.st t) c.en (freeW c l i t) :=
 SpI.fold _ _ (fun x hx => by
  obtain ⟨b, hb, e, rfl⟩ := busyL_mem hx
  have := h b hb e
  exact ⟨this.2.2, this.2.1⟩) ⟨Int.le_refl _, fun x hx => by simp at hx⟩
theorem freeL_in {c : Con} {l : List Bk} {i t : Int} (h : BkIn c l i) : ∀ x ∈ freeL c l i t, max c.st t <= x.fr /\ x.fr < x.til /\ x.til <= c.en := fun x hx => by
 have hw := freeW_in (t := t) h
 unfold freeL addS at hx
 split at hx
 ·rename_i hl
  rw [List.mem_append] at hx
  rcases hx with hx | hx
  ·exact hw.2 x hx
  ·simp at hx
   subst hx
   exact ⟨hw.1, hl, Int.le_refl _⟩
 ·exact hw.2 x hx
def fitL (n : Int) : List Spn -> Option Int
 | [] => none
 | x :: l => if n <= x.til - x.fr then some x.fr else fitL n l
theorem fitL_skip {n : Int} {l : List Spn} {k : Nat} (hk : k < l.length) (h : ¬ n <= l[k].til - l[k].fr) : fitL n (l.drop k) = fitL n (l.drop (k + 1)) := by
 rw [List.drop_eq_getElem_cons hk]; show (if _ then _ else _) = _; rw [if_neg h]
theorem fitL_here {n : Int} {l : List Spn} {k : Nat} (hk : k < l.length) (h : n <= l[k].til - l[k].fr) : fitL n (l.drop k) = some l[k].fr := by
 rw [List.drop_eq_getElem_cons hk]; show (if _ then _ else _) = _; rw [if_pos h]
end
section
open Go.RowKit Go.Shelf
attribute [local go_sem] Oper.semAt_some
set_option maxHeartbeats 400000 in
theorem cmp_any (x y : Int) (w : World) :
 Calls Tryz.prog 68 #[.int .i64 x, .int .i64 y] w fun e w' => e = .returned (.int .i64 (cmpI x y)) /\ w = w' := by
 go_enter Tryz.func68, Tryz.ntmps68
 go_wp2
 all_goals go_ret
 all_goals refine ⟨ret_i64 ?_, rfl⟩
 all_goals unfold cmpI
 ·rw [if_pos (by assumption)]
 ·rw [if_neg (by omega), if_pos (by assumption)]
 ·rw [if_neg (by omega), if_neg (by omega)]
theorem orL_step {l : List Int} {k : Nat} (h : k < l.length) : orL (l.drop k) = if l[k] = 0 then orL (l.drop (k + 1)) else l[k] := by
 rw [List.drop_eq_getElem_cons h]; rfl
set_option maxHeartbeats 800000 in
theorem or_any (A : Option Addr) (c : Nat) (l : List Int) (w : World) (hA : Rd EInt w A l) (hmax : l.length <= 1000000) :
 Calls Tryz.prog 67 #[.slice A l.length c] w fun e w' => e = .returned (.int .i64 (orL l)) /\ w = w' := by
 go_enter Tryz.func67, Tryz.ntmps67
 go_wp2
 go_loop [8] (fun i => ∃ k : Nat, k <= l.length /\ i = .int .i64 k /\ Hid (orL l = orL (l.drop k))) (fun i => l.length - (intOf i).toNat)
 case atStart => exact ⟨0, Nat.zero_le _, rfl, Lib.hid rfl⟩
 case round =>
  obtain ⟨k, hk, rfl, hx⟩ := hrel
  by_cases hlt : k < l.length
  ·obtain ⟨b1, o1, rfl, _, hc1⟩ := hA.int hlt
   have hst := Lib.hid (orL_step hlt)
   by_cases hz : l[k] = 0
   ·have hd : (l[k] != 0) = false := by simpa using hz
    have Hz := Lib.hid hz
    clear hz
    go_wp2
    go_round
    case rel => exact ⟨k + 1, by omega, by go_num, Lib.hid (by rw [hx.out, hst.out, if_pos Hz.out])⟩
    case measure => simp [intOf]; omega
   ·have hd : (l[k] != 0) = true := by simpa using hz
    have Hz := Lib.hid hz
    clear hz
    go_wp2
    go_ret
    exact ⟨ret_i64 (by rw [hx.out, hst.out, if_neg Hz.out]), rfl⟩
  ·go_wp2
   go_ret
   refine ⟨ret_i64 ?_, rfl⟩
   rw [hx.out, List.drop_eq_nil_of_le (by omega)]
   rfl
theorem rd_blk2 {w : World} {g : Nat} {t : TypeId} {a b : Int} (h : Blk w g t #[.int .i64 a, .int .i64 b]) : Rd EInt w (some ⟨g, 0, none⟩) [a, b] := by
 refine ⟨rfl, fun _ => ⟨_, rfl, h.lt, fun j u hu => ?_⟩⟩
 rw [Addr.add_lit, Nat.zero_add, h.cell]
 rw [<- hu]
 match j with
 | 0 | 1 => rfl
 | j + 2 => rfl
theorem rd_blk3 {w : World} {g : Nat} {t : TypeId} {a b c : Int} (h : Blk w g t #[.int .i64 a, .int .i64 b, .int .i64 c]) : Rd EInt w (some ⟨g, 0, none⟩) [a, b, c] := by
 refine ⟨rfl, fun _ => ⟨_, rfl, h.lt, fun j u hu => ?_⟩⟩
 rw [Addr.add_lit, Nat.zero_add, h.cell]
 rw [<- hu]
 match j with
 | 0 | 1 | 2 => rfl
 | j + 3 => rfl
theorem rd_new2 (W : World) (t : TypeId) (a b : Int) : Rd EInt (W.alloc (.cells #[.int .i64 a, .int .i64 b] t)).drew (some ⟨W.heap.size, 0, none⟩) [a, b] := rd_blk2 (t := t) (show Blk (W.alloc (.cells #[.int .i64 a, .int .i64 b] t)).drew W.heap.size t #[.int .i64 a, .int .i64 b] from Blk.new W t _)
theorem near_alloc {W w1 : World} (h : Near W w1) (o : Obj) : Near W (w1.alloc o) := .of (h.1.alloc o)
set_option maxHeartbeats 2000000 in
theorem bcompare_any (a b : Bk) (w : World) :
 Calls Tryz.prog 93 #[a.val, b.val] w fun e w' => e = .returned (.int .i64 (bkCmp a b)) /\ Ext w w' := by
 obtain ⟨W, hW, hB, hk, hk2, hlt, hlt2⟩ := box2 w #[.int .i64 a.con, .int .i64 a.beg, .int .i64 a.en, .int .i64 a.tic] #[.int .i64 b.con, .int .i64 b.beg, .int .i64 b.en, .int .i64 b.tic] 100 100
 have hc := hk.cell
 have hc2 := hk2.cell
 unfold Bk.val
 go_enter Tryz.func93, Tryz.ntmps93
 go_wp2_with fail
 clear hW
 have hN := Near.refl W
 go_region_held3 (fun w' => Ext W w' /\ ∀ b o, b < W.heap.size -> w'.cell? ⟨b, o, none⟩ = W.cell? ⟨b, o, none⟩) (first | exact hN.drew | exact near_alloc (by assumption) _ | assumption)
  (first | (go_at_call 68; refine (cmp_any _ _ _).mono ?_; rintro e w1 ⟨rfl, rfl⟩) | (go_at_call 67; refine (or_any _ 2 [cmpI a.con b.con, cmpI a.beg b.beg] _ (by first | exact rd_blk2 (Blk.new _ _ _) | exact rd_new2 _ _ _ _) (by simp)).mono ?_; rintro e w1 ⟨rfl, rfl⟩))
 all_goals
  clear hN
  go_wp2
  go_ret
  exact ⟨rfl, hB.trans (And.left ‹Ext W _ /\ _›)⟩
theorem bkOk_no {p : Pln} {b : Bk} (h : ¬ (0 <= b.con /\ b.con < p.cons.length /\ 0 <= b.tic /\ b.tic <= 1152921504606846976 /\ (gc p.cons b.con).st <= b.beg /\ b.beg < b.en /\ b.en <= (gc p.cons b.con).en)) : p.bkOk b = false := by
 unfold Pln.bkOk; exact decide_eq_false h
theorem bkOk_yes {p : Pln} {b : Bk} (h : 0 <= b.con /\ b.con < p.cons.length /\ 0 <= b.tic /\ b.tic <= 1152921504606846976 /\ (gc p.cons b.con).st <= b.beg /\ b.beg < b.en /\ b.en <= (gc p.cons b.con).en) : p.bkOk b = true := by
 unfold Pln.bkOk; exact decide_eq_true h
set_option maxRecDepth 100000 in
set_option maxHeartbeats 4000000 in
theorem bvalid_any (Aq : Option Addr) (cq : Nat) (Ac : Option Addr) (cc : Nat) (p : Pln) (b : Bk) (w : World) (h : PlnRd w Aq cq Ac cc p) :
 Calls Tryz.prog 88 #[p.val Aq cq Ac cc, b.val] w fun e w' => e = .returned (.bool (p.bkOk b)) /\ Ext w w' := by
 obtain ⟨W, hW, hB, hk, hk2, hlt, hlt2⟩ := box2 w #[.slice Aq p.quo.length cq, .slice Ac p.cons.length cc] #[.int .i64 b.con, .int .i64 b.beg, .int .i64 b.en, .int .i64 b.tic] 68 100
 have hc := hk.cell
 have hc2 := hk2.cell
 have hcm := h.cm
 have HNO := Lib.hid (bkOk_no (p := p) (b := b))
 have HYES := Lib.hid (bkOk_yes (p := p) (b := b))
 unfold Pln.val Bk.val
 by_cases hg : 0 <= b.con /\ b.con < p.cons.length /\ 0 <= b.tic /\ b.tic <= 1152921504606846976
 case' neg =>
  have HV := Lib.hid (HNO.out (fun hh => hg ⟨hh.1, hh.2.1, hh.2.2.1, hh.2.2.2.1⟩))
  have hw2 : b.con < 0 ∨ (0 <= b.con /\ (p.cons.length : Int) <= b.con) ∨ (0 <= b.con /\ b.con < p.cons.length /\ b.tic < 0) ∨ (0 <= b.con /\ b.con < p.cons.length /\ 0 <= b.tic /\ 1152921504606846976 < b.tic) := by omega
  clear hg
  rcases hw2 with hw | ⟨hw, hw2⟩ | ⟨hw, hw2, hw3⟩ | ⟨hw, hw2, hw3, hw4⟩
  all_goals
   go_enter Tryz.func88, Tryz.ntmps88
   go_wp2
   go_ret
   exact ⟨by rw [HV.out]; rfl, hB⟩
 obtain ⟨g1, g2, g3, g4⟩ := hg
 have hcl : b.con.toNat < p.cons.length := by omega
 obtain ⟨bc, oc, rfl, hbc, j0, j1, j2, j3, j4, j5, j6⟩ := ((h.c).ext hB).con hcl
 have Hgc := Lib.hid (gc_get hcl)
 generalize p.cons[b.con.toNat] = c at *
 obtain ⟨W3, hW3, hB3, hk3, hlt3⟩ := box1 W c.cells 61
 simp only [Con.cells] at hW3 hk3
 have hc4 := hk3.cell
 have hc5 := (hk2.ext hB3).cell
 have hc6 := (hk2.ext hB3).lt
 have hc7 := hk3.lt
 by_cases hg : c.st <= b.beg /\ b.beg < b.en /\ b.en <= c.en
 case' neg =>
  have HV := Lib.hid (HNO.out (fun hh => hg (by rw [<- Hgc.out]; exact ⟨hh.2.2.2.2.1, hh.2.2.2.2.2.1, hh.2.2.2.2.2.2⟩)))
  have hw2 : b.beg < c.st ∨ (c.st <= b.beg /\ b.en <= b.beg) ∨ (c.st <= b.beg /\ b.beg < b.en /\ c.en < b.en) := by omega
  clear hg
  rcases hw2 with hw | ⟨hw, hw2⟩ | ⟨hw, hw2, hw3⟩
  all_goals
   go_enter Tryz.func88, Tryz.ntmps88
   go_wp2
   go_ret
   exact ⟨by rw [HV.out]; first | rfl | exact ret_bool (decide_eq_false (by omega)) | exact ret_bool (decide_eq_true (by omega)), hB.trans hB3⟩
 obtain ⟨e1, e2, e3⟩ := hg
 have HV := Lib.hid (HYES.out (by rw [Hgc.out]; exact ⟨g1, g2, g3, g4, e1, e2, e3⟩))
 go_enter Tryz.func88, Tryz.ntmps88
 go_wp2
 go_ret
 exact ⟨by rw [HV.out]; first | rfl | exact ret_bool (decide_eq_false (by omega)) | exact ret_bool (decide_eq_true (by omega)), hB.trans hB3⟩
theorem info_spn : (Tryz.prog.info? 190).map (fun i => (i.zero, i.size, i.bytes)) = some (some (.agg #[.int .i64 0, .int .i64 0]), 2, 16) := by kernel_rfl
set_option maxRecDepth 100000 in
set_option maxHeartbeats 4000000 in
theorem Busy_any (Al : Option Addr) (cl : Nat) (l : List Bk) (i : Int) (w : World) (hl : Rd EBk w Al l) (hlm : l.length <= 1000000) :
 Calls Tryz.prog 90 #[.slice Al l.length cl, .int .i64 i] w fun e w' => ∃ u, e = .returned u /\ Owns ESpn w' w.heap.size 190 u (busyL l i) /\ Ext w w' := by
 obtain ⟨i0, hi0, hz0, hz1, hz2⟩ := info_parts info_spn
 go_enter Tryz.func90, Tryz.ntmps90
 go_wp2
 go_loopg [5, 10] l.length (fun n u k wr => ∃ j : Nat, j + n = l.length /\ k = .int .i64 j /\ Owns ESpn wr w.heap.size 190 u (busyL (l.take j) i) /\ Ext w wr)
 case atStart => exact ⟨0, by omega, rfl, Owns.none_ _ _, Ext.refl _⟩
 case round =>
  obtain ⟨j, hjn, rfl, hu, hx⟩ := hrel
  have Hjn := Lib.hid hjn
  have hjN : j <= l.length := by omega
  clear hjn
  by_cases hlt : j < l.length
  ·obtain ⟨bl, ol, rfl, hbl, g0, g1, g2, g3⟩ := (hl.ext hx).bk hlt
   have hsn := Lib.hid (take_snoc hlt rfl)
   have hbs := busyL_snoc (l.take j) i l[j]
   have hlen := busyL_len (l.take j) i
   have htk : (l.take j).length <= j := List.length_take_le _ _
   generalize l[j] = b at *
   rw [<- hsn.out] at hbs
   have Hbs := Lib.hid hbs
   clear hbs
   obtain ⟨W2, hW2, hB2, hkb, hltW⟩ := box1 wr #[.int .i64 b.con, .int .i64 b.beg, .int .i64 b.en, .int .i64 b.tic] 100
   have hck := hkb.cell
   have hu2 := hu.ext hB2
   have hsz := hx.size
   have hsz2 := hB2.size
   by_cases hi : b.con = i
   ·have hd : (b.con == i) = true := by simpa using hi
    have Hi := Lib.hid hi
    clear hi
    go_wp2_with (at_builtin; refine wpList_push rfl (.tmp 18) (.tmp 24) _ (by rfl) w.heap.size 190 i0 _ 16 Tryz.underlying188 hi0 hz0 hz1 hz2 (by rfl) u5 (by rfl) (hu2.ext ((Ext.refl _).alloc _)) W2.heap.size ⟨b.beg, b.en⟩ (by rfl) (Blk.new W2 _ _) (by simp only [maxLen]; omega) (by omega) (by simp; omega) ?_; intro v6 w6 hv6 hg6 hat6; have hx6 := ext_grown ((hx.trans hB2).alloc _) (hu2.ext ((Ext.refl _).alloc _)) (Nat.le_refl _) hg6)
    go_roundg (l.length - (j + 1))
    case measure => have := Hjn.out; omega
    case rel => exact ⟨j + 1, by have := Hjn.out; omega, by go_num, by rw [Hbs.out, if_pos Hi.out]; exact hv6, hx6⟩
   ·have hd : (b.con == i) = false := by simpa using hi
    have Hi := Lib.hid hi
    clear hi
    go_wp2
    go_roundg (l.length - (j + 1))
    case measure => have := Hjn.out; omega
    case rel => exact ⟨j + 1, by have := Hjn.out; omega, by go_num, by rw [Hbs.out, if_neg Hi.out]; exact hu2, hx.trans hB2⟩
  ·obtain rfl : j = l.length := by omega
   go_wp2
   go_ret
   rw [List.take_length] at hu
   exact ⟨_, rfl, hu, hx⟩
end
section
open Go.RowKit Go.Shelf
attribute [local go_sem] Oper.semAt_some
theorem bkAt_2 {p : Pln} {l : List Bk} {i : Nat} {b : Bk} (h : gbk l i = b) (hv : p.bkOk b = false) : p.bkAt l i = 2 := by
 unfold Pln.bkAt; rw [h, if_pos hv]
theorem bkAt_0 {p : Pln} {l : List Bk} {b : Bk} (h : gbk l 0 = b) (hv : p.bkOk b = true) : p.bkAt l 0 = 0 := by
 unfold Pln.bkAt; rw [h, if_neg (by rw [hv]; decide), if_pos rfl]
theorem bkAt_9 {p : Pln} {l : List Bk} {m : Nat} {a b : Bk} (h : gbk l (m + 1) = b) (ha : gbk l m = a) (hv : p.bkOk b = true) (hc : 0 <= bkCmp a b) : p.bkAt l (m + 1) = 9 := by
 unfold Pln.bkAt; rw [h, if_neg (by rw [hv]; decide), if_neg (by omega), Nat.add_sub_cancel, ha, if_pos hc]
theorem bkAt_14 {p : Pln} {l : List Bk} {m : Nat} {a b : Bk} (h : gbk l (m + 1) = b) (ha : gbk l m = a) (hv : p.bkOk b = true) (hc : ¬ 0 <= bkCmp a b) (h1 : a.con = b.con) (h2 : b.beg < a.en) : p.bkAt l (m + 1) = 14 := by
 unfold Pln.bkAt; rw [h, if_neg (by rw [hv]; decide), if_neg (by omega), Nat.add_sub_cancel, ha, if_neg hc, if_pos ⟨h1, h2⟩]
theorem bkAt_ok {p : Pln} {l : List Bk} {m : Nat} {a b : Bk} (h : gbk l (m + 1) = b) (ha : gbk l m = a) (hv : p.bkOk b = true) (hc : ¬ 0 <= bkCmp a b) (h1 : ¬ (a.con = b.con /\ b.beg < a.en)) : p.bkAt l (m + 1) = 0 := by
 unfold Pln.bkAt; rw [h, if_neg (by rw [hv]; decide), if_neg (by omega), Nat.add_sub_cancel, ha, if_neg hc, if_neg h1]
set_option maxRecDepth 100000 in
set_option maxHeartbeats 4000000 in
theorem bCheck_any (Aq : Option Addr) (cq : Nat) (Ac : Option Addr) (cc : Nat) (p : Pln) (Al : Option Addr) (cl : Nat) (l : List Bk) (w : World) (h : PlnRd w Aq cq Ac cc p) (hl : Rd EBk w Al l) (hlm : l.length <= 1000000) :
 Calls Tryz.prog 29 #[p.val Aq cq Ac cc, .slice Al l.length cl] w fun e w' => e = .returned (.int .i64 (p.bkChk l)) /\ Ext w w' := by
 obtain ⟨W, hW, hB, hk, hlt⟩ := box1 w #[.slice Aq p.quo.length cq, .slice Ac p.cons.length cc] 68
 have hc := hk.cell
 have hpc := pcheck_any Aq cq Ac cc p W (h.ext hB)
 have hrd := h.ext hB
 have hl1 := hl.ext hB
 unfold Pln.val at hpc ⊢
 by_cases h0 : p.chk = 0
 case' neg =>
  have d0 : (p.chk != 0) = true := by simpa using h0
  have HV := Lib.hid (show p.bkChk l = 1 by unfold Pln.bkChk; rw [if_neg h0])
  clear h0
  go_enter Tryz.func29, Tryz.ntmps29
  go_wp2_with fail
  clear hW
  refine hpc.mono ?_
  rintro e w1 ⟨rfl, hb1⟩
  go_wp2
  go_ret
  exact ⟨by rw [HV.out]; rfl, hB.trans hb1⟩
 rw [h0] at hpc
 have H0 := Lib.hid h0
 clear h0
 by_cases h5 : 512 < l.length
 case' pos =>
  have d5 : decide ((512 : Int) < l.length) = true := decide_eq_true (by omega)
  have HV := Lib.hid (show p.bkChk l = 4 by unfold Pln.bkChk; rw [if_pos H0.out, if_pos h5])
  clear h5
  go_enter Tryz.func29, Tryz.ntmps29
  go_wp2_with fail
  clear hW
  refine hpc.mono ?_
  rintro e w1 ⟨rfl, hb1⟩
  go_wp2
  go_ret
  exact ⟨by rw [HV.out]; rfl, hB.trans hb1⟩
 have d5 : decide ((512 : Int) < l.length) = false := decide_eq_false (by omega)
 have HE := Lib.hid (show p.bkChk l = p.bkErr l l.length by unfold Pln.bkChk; rw [if_pos H0.out, if_neg h5])
 clear h5
 go_enter Tryz.func29, Tryz.ntmps29
 go_wp2_with fail
 clear hW
 refine hpc.mono ?_
 clear hpc
 rintro e w1 ⟨rfl, hb1⟩
 have hrd1 := hrd.ext hb1
 have hl2 := hl1.ext hb1
 have hk1 := hk.ext hb1
 have hE1 := hB.trans hb1
 clear hc hrd hl1 hk
 go_wp2
 go_loopg [15] l.length (fun n k wr => ∃ j : Nat, j + n = l.length /\ k = .int .i64 j /\ Hid (p.bkErr l j = 0) /\ Ext w1 wr)
 case atStart => exact ⟨0, by omega, rfl, Lib.hid rfl, Ext.refl _⟩
 case round =>
  obtain ⟨j, hjq, rfl, hme, hx⟩ := hrel
  have Hjq := Lib.hid hjq
  have hjN : j <= l.length := by omega
  clear hjq
  by_cases hlt2 : j < l.length
  ·obtain ⟨bl, ol, rfl, hbl, g0, g1, g2, g3⟩ := (hl2.ext hx).bk hlt2
   have hgb := gbk_get hlt2
   cases j with
   | zero =>
     simp only [Nat.zero_mul, Nat.add_zero] at g0 g1 g2 g3
     generalize hbe : l[0] = b at *
     have Hgb := Lib.hid hgb
     clear hgb hbe
     obtain ⟨W2, hW2, hB2, hkb, hltW⟩ := box1 wr #[.int .i64 b.con, .int .i64 b.beg, .int .i64 b.en, .int .i64 b.tic] 100
     have hva := bvalid_any Aq cq Ac cc p b W2 ((hrd1.ext hx).ext hB2)
     unfold Pln.val Bk.val at hva
     have hcb := hkb.cell
     have hcp := ((hk1.ext hx).ext hB2).cell
     have hlp := ((hk1.ext hx).ext hB2).lt
     go_wp2_with fail
     clear hW2
     refine hva.mono ?_
     clear hva
     rintro e w4 ⟨rfl, hb4⟩
     cases hv : p.bkOk b
     ·have HV := Lib.hid (show p.bkChk l = 2 by
       have e := bkAt_2 Hgb.out hv
       rw [HE.out, Pln.bkErr_step hme.out hlt2 (by rw [e]; decide), e])
      clear hv
      go_wp2
      go_ret
      exact ⟨by rw [HV.out]; rfl, ((hE1.trans hx).trans hB2).trans hb4⟩
     ·have HN := Lib.hid (Pln.bkErr_next hme.out (bkAt_0 Hgb.out hv))
      clear hv
      go_wp2
      go_roundg (l.length - (0 + 1))
      case measure => have := Hjq.out; omega
      case rel => exact ⟨0 + 1, by have := Hjq.out; omega, by go_num, HN, (hx.trans hB2).trans hb4⟩
   | succ m =>
     obtain ⟨b', o', hA, hbl', f0, f1, f2, f3⟩ := (hl2.ext hx).bk (k := m) (by omega)
     injection hA with hA
     injection hA with hA hA2
     subst hA hA2
     have hwj : IntKind.i64.wrap (m : Int) = (m : Int) := IntWalk.i64_in _ (by omega)
     have hga := gbk_get (l := l) (i := m) (by omega)
     have hmi0 : m < l.length := by omega
     have hmi1 : (m : Int) < (l.length : Int) := by omega
     have hmi2 : (m : Int) <= (l.length : Int) := by omega
     have hmi3 : m <= l.length := by omega
     generalize hbe : l[m + 1] = b at *
     generalize hae : l[m] = a at *
     have Hgb := Lib.hid hgb
     have Hga := Lib.hid hga
     clear hgb hbe hga hae
     obtain ⟨W2, hW2, hB2, hkb, hltW⟩ := box1 wr #[.int .i64 b.con, .int .i64 b.beg, .int .i64 b.en, .int .i64 b.tic] 100
     have hva := bvalid_any Aq cq Ac cc p b W2 ((hrd1.ext hx).ext hB2)
     have hcmp := fun w => bcompare_any a b w
     unfold Pln.val Bk.val at hva
     unfold Bk.val at hcmp
     have hcb := hkb.cell
     have hcp := ((hk1.ext hx).ext hB2).cell
     have hlp := ((hk1.ext hx).ext hB2).lt
     go_wp2_with fail
     clear hW2
     refine hva.mono ?_
     clear hva
     rintro e w4 ⟨rfl, hb4⟩
     cases hv : p.bkOk b
     ·have HV := Lib.hid (show p.bkChk l = 2 by
       have e := bkAt_2 Hgb.out hv
       rw [HE.out, Pln.bkErr_step hme.out hlt2 (by rw [e]; decide), e])
      clear hv
      go_wp2
      go_ret
      exact ⟨by rw [HV.out]; rfl, ((hE1.trans hx).trans hB2).trans hb4⟩
     ·have HVT := Lib.hid hv
      clear hv
      have hx4 := hB2.trans hb4
      have hcb4 := (hkb.ext hb4).cell
      have hlb4 := (hkb.ext hb4).lt
      replace g0 := hx4.cell_some g0
      replace g1 := hx4.cell_some g1
      replace g2 := hx4.cell_some g2
      replace g3 := hx4.cell_some g3
      replace f0 := hx4.cell_some f0
      replace f1 := hx4.cell_some f1
      replace f2 := hx4.cell_some f2
      replace f3 := hx4.cell_some f3
      have hbl4 : bl < w4.heap.size := Nat.lt_of_lt_of_le hbl hx4.size
      clear hcb hcp
      go_wp2_with fail
      have hN := Near.refl w4
      go_region_held3 (fun w' => Ext w4 w' /\ ∀ b o, b < w4.heap.size -> w'.cell? ⟨b, o, none⟩ = w4.cell? ⟨b, o, none⟩) (first | exact hN.drew | exact Near.step (by assumption) hb9 | assumption)
       (first | (go_at_call 93; refine (hcmp _).mono ?_; rintro e w9 ⟨rfl, hb9⟩))
      all_goals
       obtain ⟨hE, hC⟩ := ‹Ext w4 _ /\ _›
       replace hN : Near w4 _ := ⟨hE, hC⟩
       have hEw := ((hE1.trans hx).trans hx4).trans hE
       have hcb5 := ((hkb.ext hb4).ext hE).cell
       by_cases hcm : 0 <= bkCmp a b
       ·have HV := Lib.hid (show p.bkChk l = 9 by
         have e := bkAt_9 Hgb.out Hga.out HVT.out hcm
         rw [HE.out, Pln.bkErr_step hme.out hlt2 (by rw [e]; decide), e])
        go_wp2
        go_ret
        exact ⟨by rw [HV.out]; rfl, hEw⟩
       ·have Hcm := Lib.hid hcm
        have dcm : decide (0 <= bkCmp a b) = false := decide_eq_false hcm
        by_cases hcon : a.con = b.con
        ·have dcon : (a.con == b.con) = true := by simpa using hcon
         by_cases hov : b.beg < a.en
         ·have HV := Lib.hid (show p.bkChk l = 14 by
           have e := bkAt_14 Hgb.out Hga.out HVT.out hcm hcon hov
           rw [HE.out, Pln.bkErr_step hme.out hlt2 (by rw [e]; decide), e])
          clear hcon hcm
          go_wp2_with fail
          have hq := quiet_near hN
          refine wp_region_quiet_below (by kernel_rfl) (by kernel_rfl) ?_
          repeat (first | go_big_quiet_skip | (go_big_quiet_want; go_big_quiet_op; first | go_big_quiet_on | (apply Exists.intro; refine ⟨fun _ => ?_, ?_⟩; (focus (first | fail)); go_big_quiet_on)))
          refine wpQuiet_nil ?_
          intro w1 hw1
          clear hq
          replace hw1 := quiet_ext hw1
          replace hN := hN.step hw1
          have hC := hN.2
          go_wp2
          go_ret
          exact ⟨by rw [HV.out]; rfl, ((hE1.trans hx).trans hx4).trans hN.1⟩
         ·have HN := Lib.hid (Pln.bkErr_next hme.out (bkAt_ok Hgb.out Hga.out HVT.out hcm (fun hh => hov hh.2)))
          have dov : decide (b.beg < a.en) = false := decide_eq_false hov
          clear hcon hcm
          go_wp2_with fail
          have hq := quiet_near hN
          refine wp_region_quiet_below (by kernel_rfl) (by kernel_rfl) ?_
          repeat (first | go_big_quiet_skip | (go_big_quiet_want; go_big_quiet_op; first | go_big_quiet_on | (apply Exists.intro; refine ⟨fun _ => ?_, ?_⟩; (focus (first | fail)); go_big_quiet_on)))
          refine wpQuiet_nil ?_
          intro w1 hw1
          clear hq
          replace hw1 := quiet_ext hw1
          replace hN := hN.step hw1
          have hC := hN.2
          go_wp2
          go_roundg (l.length - (m + 1 + 1))
          case measure => have := Hjq.out; omega
          case rel => exact ⟨m + 1 + 1, by have := Hjq.out; omega, by go_num, HN, (hx.trans hx4).trans hN.1⟩
        ·have dcon : (a.con == b.con) = false := by simpa using hcon
         have HN := Lib.hid (Pln.bkErr_next hme.out (bkAt_ok Hgb.out Hga.out HVT.out hcm (fun hh => hcon hh.1)))
         clear hcon hcm
         go_wp2_with fail
         have hq := quiet_near hN
         refine wp_region_quiet_below (by kernel_rfl) (by kernel_rfl) ?_
         repeat (first | go_big_quiet_skip | (go_big_quiet_want; go_big_quiet_op; first | go_big_quiet_on | (apply Exists.intro; refine ⟨fun _ => ?_, ?_⟩; (focus (first | fail)); go_big_quiet_on)))
         refine wpQuiet_nil ?_
         intro w1 hw1
         clear hq
         replace hw1 := quiet_ext hw1
         replace hN := hN.step hw1
         have hC := hN.2
         go_wp2
         go_roundg (l.length - (m + 1 + 1))
         case measure => have := Hjq.out; omega
         case rel => exact ⟨m + 1 + 1, by have := Hjq.out; omega, by go_num, HN, (hx.trans hx4).trans hN.1⟩
  ·obtain rfl : j = l.length := by omega
   go_wp2
   go_ret
   exact ⟨by rw [HE.out, hme.out]; rfl, hE1.trans hx⟩
def Pln.bkE (p : Pln) (l : List Bk) (i : Int) : Int := if p.bkChk l = 0 then (if i < 0 ∨ (p.cons.length : Int) <= i then 2 else 0) else 1
set_option maxRecDepth 100000 in
set_option maxHeartbeats 2000000 in
theorem bcheck_any (Aq : Option Addr) (cq : Nat) (Ac : Option Addr) (cc : Nat) (p : Pln) (Al : Option Addr) (cl : Nat) (l : List Bk) (i : Int) (w : World) (h : PlnRd w Aq cq Ac cc p) (hl : Rd EBk w Al l) (hlm : l.length <= 1000000) :
 Calls Tryz.prog 257 #[p.val Aq cq Ac cc, .slice Al l.length cl, .int .i64 i] w fun e w' => e = .returned (.int .i64 (p.bkE l i)) /\ Ext w w' := by
 obtain ⟨W, hW, hB, hk, hlt⟩ := box1 w #[.slice Aq p.quo.length cq, .slice Ac p.cons.length cc] 68
 have hc := hk.cell
 have hpc := bCheck_any Aq cq Ac cc p Al cl l W (h.ext hB) (hl.ext hB) hlm
 have hcm := h.cm
 unfold Pln.val at hpc ⊢
 by_cases h0 : p.bkChk l = 0
 case' neg =>
  have d0 : (p.bkChk l != 0) = true := by simpa using h0
  have HV := Lib.hid (show p.bkE l i = 1 from if_neg h0)
  clear h0
  go_enter Tryz.func257, Tryz.ntmps257
  go_wp2_with fail
  clear hW
  refine hpc.mono ?_
  rintro e w1 ⟨rfl, hb1⟩
  go_wp2
  go_ret
  exact ⟨by rw [HV.out]; rfl, hB.trans hb1⟩
 rw [h0] at hpc
 have HV := Lib.hid (show p.bkE l i = if i < 0 ∨ (p.cons.length : Int) <= i then 2 else 0 from if_pos h0)
 clear h0
 by_cases h1 : i < 0
 case' pos =>
  replace HV := Lib.hid (HV.out.trans (if_pos (.inl h1)))
  go_enter Tryz.func257, Tryz.ntmps257
  go_wp2_with fail
  clear hW
  refine hpc.mono ?_
  rintro e w1 ⟨rfl, hb1⟩
  have hc1 := (hk.ext hb1).cell
  have hl1 := (hk.ext hb1).lt
  go_wp2
  go_ret
  exact ⟨by rw [HV.out]; rfl, hB.trans hb1⟩
 have d1 : decide (i < 0) = false := decide_eq_false h1
 by_cases h2 : (p.cons.length : Int) <= i
 ·replace HV := Lib.hid (HV.out.trans (if_pos (.inr h2)))
  go_enter Tryz.func257, Tryz.ntmps257
  go_wp2_with fail
  clear hW
  refine hpc.mono ?_
  rintro e w1 ⟨rfl, hb1⟩
  have hc1 := (hk.ext hb1).cell
  have hl1 := (hk.ext hb1).lt
  go_wp2
  go_ret
  exact ⟨by rw [HV.out]; rfl, hB.trans hb1⟩
 ·replace HV := Lib.hid (HV.out.trans (if_neg (fun h => h.elim h1 h2)))
  have d2 : decide ((p.cons.length : Int) <= i) = false := decide_eq_false h2
  go_enter Tryz.func257, Tryz.ntmps257
  go_wp2_with fail
  clear hW
  refine hpc.mono ?_
  rintro e w1 ⟨rfl, hb1⟩
  have hc1 := (hk.ext hb1).cell
  have hl1 := (hk.ext hb1).lt
  go_wp2
  go_ret
  exact ⟨by rw [HV.out]; rfl, hB.trans hb1⟩
end
section
open Go.RowKit Go.Shelf
attribute [local go_sem] Oper.semAt_some
theorem KpX.grown {n g : Nat} {W W' : World} {row : Option Nat} (hn : n <= W.heap.size) (h : W.grownBy W' row) (hr : ∀ r, row = some r -> n <= r) : KpX n g W W' :=
 ⟨h.os, h.tape, h.output, h.size, fun k hk _ => h.block k (by omega) (fun e => by have := hr k e.symm; omega)⟩
theorem Owns.kpx {α : Type} {E : Elt α} {n g : Nat} {w w' : World} {base : Nat} {e : TypeId} {v : Value} {l : List α} (h : Owns E w base e v l) (hk : KpX n g w w') (hb : ∀ b, v.ownBlock = some b -> b < n /\ b ≠ g) : Owns E w' base e v l :=
 ⟨h.1, h.2.imp id fun ⟨b, cap, cur, hv, hg, hh, r⟩ => ⟨b, cap, cur, hv, hg, (hk.block b (hb b (by rw [hv]; rfl)).1 (hb b (by rw [hv]; rfl)).2).trans hh, r⟩⟩
structure KpY (n a b : Nat) (W W' : World) : Prop where
 os : W'.os = W.os
 tape : W'.tape = W.tape
 output : W'.output = W.output
 size : W.heap.size <= W'.heap.size
 block : ∀ k, k < n -> k ≠ a -> k ≠ b -> W'.heap[k]? = W.heap[k]?
theorem KpY.refl (n a b : Nat) (W : World) : KpY n a b W W := ⟨rfl, rfl, rfl, Nat.le_refl _, fun _ _ _ _ => rfl⟩
theorem KpY.ext {n a b : Nat} {A B C : World} (h : KpY n a b A B) (hn : n <= B.heap.size) (k : Ext B C) : KpY n a b A C :=
 ⟨k.os.trans h.os, k.tape.trans h.tape, k.output.trans h.output, Nat.le_trans h.size k.size, fun i h1 h2 h3 => (k.block i (by omega)).trans (h.block i h1 h2 h3)⟩
theorem KpY.trans {n a b : Nat} {A B C : World} (h : KpY n a b A B) (k : KpY n a b B C) : KpY n a b A C :=
 ⟨k.os.trans h.os, k.tape.trans h.tape, k.output.trans h.output, Nat.le_trans h.size k.size, fun i h1 h2 h3 => (k.block i h1 h2 h3).trans (h.block i h1 h2 h3)⟩
theorem KpY.of_ext {n a b : Nat} {W W' : World} (hn : n <= W.heap.size) (h : Ext W W') : KpY n a b W W' :=
 ⟨h.os, h.tape, h.output, h.size, fun k hk _ _ => h.block k (by omega)⟩
theorem KpY.put {n a b : Nat} (W : World) (l : Nat) (o : Obj) (hl : n <= l) : KpY n a b W (W.putObj l o) :=
 ⟨rfl, rfl, rfl, by simp, fun k hk _ _ => World.putObj_heap_other (by omega)⟩
theorem KpY.setB {n a b : Nat} {A B : World} (h : KpY n a b A B) (o : Nat) (v : Value) : KpY n a b A (B.setCell ⟨b, o, none⟩ v) :=
 ⟨h.os, h.tape, h.output, by simp [World.setCell]; exact h.size, fun i h1 h2 h3 => (Below.heap_setCell B ⟨b, o, none⟩ v i h3).trans (h.block i h1 h2 h3)⟩
theorem KpY.kpx {n a b : Nat} {A B C : World} (h : KpY n a b A B) (k : KpX n b B C) : KpY n a b A C :=
 ⟨k.os.trans h.os, k.tape.trans h.tape, k.output.trans h.output, Nat.le_trans h.size k.size, fun i h1 h2 h3 => (k.block i h1 h3).trans (h.block i h1 h2 h3)⟩
theorem KpY.setA {n a b : Nat} {A B : World} (h : KpY n a b A B) (o : Nat) (v : Value) : KpY n a b A (B.setCell ⟨a, o, none⟩ v) :=
 ⟨h.os, h.tape, h.output, by simp [World.setCell]; exact h.size, fun i h1 h2 h3 => (Below.heap_setCell B ⟨a, o, none⟩ v i h2).trans (h.block i h1 h2 h3)⟩
theorem KpY.blk {n a b : Nat} {W W' : World} (h : KpY n a b W W') {g : Nat} {t : TypeId} {cs : Array Value} (hb : Blk W g t cs) (h1 : g < n) (h2 : g ≠ a) (h3 : g ≠ b) : Blk W' g t cs := (h.block g h1 h2 h3).trans hb
theorem KpY.out {n a b : Nat} {w W W' : World} (h : KpY n a b W W') (hw : Ext w W) (h1 : w.heap.size <= n) (h2 : w.heap.size <= a) (h3 : w.heap.size <= b) : Ext w W' :=
 Below.trans hw ⟨h.os, h.tape, h.output, h.size, fun k hk => h.block k (by omega) (by omega) (by omega)⟩
set_option maxRecDepth 100000 in
set_option maxHeartbeats 2000000 in
theorem fadd_any (tt at_ : Int) (ga go : Nat) (u : Value) (out : List Spn) (base : Nat) (w : World) (hb : base <= w.heap.size) (ka : Blk w ga 3 #[.int .i64 at_]) (ko : Blk w go 188 #[u])
 (hga : ga < base) (hgo : go < base) (hne : ga ≠ go) (hu : Owns ESpn w base 190 u out) (hlen : out.length <= 1000000) :
 Calls Tryz.prog 305 #[.int .i64 tt, .pointer (some ⟨ga, 0, none⟩), .pointer (some ⟨go, 0, none⟩)] w fun e w' => (∃ r, e = .returned r) /\ ∃ u', Owns ESpn w' base 190 u' (addS at_ tt out) /\ Blk w' go 188 #[u'] /\ KpX base go w w' /\ ∀ k, k < w.heap.size -> k ≠ go -> u.ownBlock ≠ some k -> w'.heap[k]? = w.heap[k]? := by
 obtain ⟨i0, hi0, hz0, hz1, hz2⟩ := info_parts info_spn
 have c1 := ka.cell
 have c2 := ka.lt
 have c3 := ko.cell
 have c4 := ko.lt
 have c5 := ko.frozen
 by_cases hlt : at_ < tt
 ·have HV := Lib.hid (show addS at_ tt out = out ++ [(⟨at_, tt⟩ : Spn)] from if_pos hlt)
  obtain ⟨A, cap, rfl, hR⟩ := hu.form
  have hcap := hu.cap
  go_enter Tryz.func305, Tryz.ntmps305
  go_wp2_with (at_builtin; refine wpList_push rfl (.tmp 7) (.tmp 11) _ (by rfl) base 190 i0 _ 16 Tryz.underlying188 hi0 hz0 hz1 hz2 (by rfl) (.slice A out.length cap) (by rfl) (hu.ext ((Ext.refl _).alloc _)) w.heap.size (⟨at_, tt⟩ : Spn) (by rfl) (Blk.new w _ _) (by simp only [maxLen]; omega) (by omega) (by simp; omega) ?_; intro v6 w6 hv6 hg6 hat6; have hK6 : KpX base go w w6 := KpX.trans (KpX.of_ext hb ((Ext.refl w).alloc _)) (KpX.grown (by simp; omega) hg6 (fun r e => (hu.block e).1)); have hf6 : ∀ k, k < w.heap.size -> (Value.slice A out.length cap).ownBlock ≠ some k -> w6.heap[k]? = w.heap[k]? := fun k hk hn => (hg6.block k (by simp; omega) (fun e => hn e.symm)).trans (Below.heap_alloc w _ k hk); have ko6 := Blk.kept (ko.ext ((Ext.refl _).alloc _)) hg6 (fun e' => by have := (hu.block e'.symm).1; omega); have c36 := ko6.cell; have c46 := ko6.lt; have c56 := ko6.frozen; have hs6 := hg6.size; obtain ⟨A6, d6, rfl, hR6⟩ := hv6.form; simp only [List.length_append, List.length_cons, List.length_nil, Nat.zero_add] at hv6)
  go_end0
  refine ⟨⟨_, rfl⟩, .slice A6 (out.length + 1) d6, ?_, ?_, ?_, fun k hk h1 h2 => (Below.heap_setCell w6 ⟨go, 0, none⟩ _ k h1).trans (hf6 k hk h2)⟩
  ·rw [HV.out]
   exact hv6.kept (grown_setCell (World.grownBy.refl w6 (some go)) 0 _) (fun g hg e => by injection e with e; have := (hv6.block hg).1; omega)
  ·exact ko6.set0 _
  ·exact hK6.trans (KpX.setCell _ _ _)
 ·have HV := Lib.hid (show addS at_ tt out = out from if_neg hlt)
  have d0 : decide (at_ < tt) = false := decide_eq_false hlt
  go_enter Tryz.func305, Tryz.ntmps305
  go_wp2
  go_end0
  exact ⟨⟨_, rfl⟩, u, by rw [HV.out]; exact hu, ko, KpX.refl _ _ _, fun _ _ _ _ => rfl⟩
theorem free_snoc {m : List Spn} {j : Nat} {x : Spn} {s : Int × List Spn} (h : j < m.length) (hx : m[j] = x) : (m.take (j + 1)).foldl freeStep s = freeStep ((m.take j).foldl freeStep s) x := by
 rw [take_snoc h hx, List.foldl_append]; rfl
theorem max_set (a b : Int) : max a b = if a < b then b else a := by split <;> omega
set_option maxRecDepth 100000 in
set_option maxHeartbeats 4000000 in
theorem free_any (Aq : Option Addr) (cq : Nat) (Ac : Option Addr) (cc : Nat) (p : Pln) (Al : Option Addr) (cl : Nat) (l : List Bk) (i t : Int) (w : World) (h : PlnRd w Aq cq Ac cc p) (hl : Rd EBk w Al l) (hlm : l.length <= 512) (hi : 0 <= i /\ i < p.cons.length) :
 Calls Tryz.prog 258 #[p.val Aq cq Ac cc, .slice Al l.length cl, .int .i64 i, .int .i64 t] w fun e w' => ∃ u, e = .returned u /\ Owns ESpn w' w.heap.size 190 u (freeL (gc p.cons i) l i t) /\ Ext w w' := by
 obtain ⟨W, hW, hB, hk, hlt⟩ := box1 w #[.slice Aq p.quo.length cq, .slice Ac p.cons.length cc] 68
 have hcl : i.toNat < p.cons.length := by omega
 have hcm := h.cm
 obtain ⟨bc, oc, rfl, hbc, j0, j1, j2, j3, j4, j5, j6⟩ := ((h.c).ext hB).con hcl
 have Hgc := Lib.hid (gc_get hcl)
 generalize p.cons[i.toNat] = c at *
 obtain ⟨W1, hW1, hB1, hk1, hlt1⟩ := box1 W c.cells 61
 simp only [Con.cells] at hW1 hk1
 obtain ⟨W2, hW2, hB2, hk2, hlt2⟩ := box1 W1 #[.slice none 0 0] 188
 obtain ⟨m, hm⟩ : ∃ m, (if c.st < t then t else c.st) = m := ⟨_, rfl⟩
 have Hm := Lib.hid ((max_set c.st t).trans hm)
 obtain ⟨W3, hW3, hB3, hk3, hlt3⟩ := box1 W2 #[.int .i64 m] 3
 have s0 := hk.cell
 have s1 := (hk1.ext hB2).cell
 have s2 := (hk1.ext hB2).lt
 have hbu := Busy_any Al cl l i W3 ((((hl.ext hB).ext hB1).ext hB2).ext hB3) (by omega)
 unfold Pln.val
 go_enter Tryz.func258, Tryz.ntmps258
 go_wp2_with fail
 clear hW hW1 hW2 hW3 hm
 refine hbu.mono ?_
 clear hbu
 rintro e w4 ⟨v4, rfl, hub, hb4⟩
 have hvb := fun b hb => hub.block (g := b) hb
 obtain ⟨Ab, db, rfl, hRb⟩ := hub.form
 have kA := hk3.ext hb4
 have kO := (hk2.ext hB3).ext hb4
 have kC := ((hk1.ext hB2).ext hB3).ext hb4
 have hlen := busyL_len l i
 have hW3 := hb4.size
 have hwl : ∀ b, (Value.slice Ab (busyL l i).length db).ownBlock = some b -> b < w4.heap.size /\ b ≠ W1.heap.size := fun b hb => ⟨(hvb b hb).2, by have := (hvb b hb).1; omega⟩
 have hwa : ∀ b, (Value.slice Ab (busyL l i).length db).ownBlock = some b -> some b ≠ some W2.heap.size := fun b hb e => by injection e with e; have := (hvb b hb).1; omega
 have hE4 : Ext w w4 := ((((hB.trans hB1).trans hB2).trans hB3).trans hb4)
 have z1 : w.heap.size <= W1.heap.size := by omega
 have hfw : freeW c l i t = (busyL l i).foldl freeStep (m, []) := by unfold freeW; rw [Hm.out]
 have Hfw := Lib.hid hfw
 clear hfw hvb s0 s1 s2
 obtain ⟨M, hM⟩ : ∃ M, busyL l i = M := ⟨_, rfl⟩
 have HM := Lib.hid hM
 rw [hM] at hub hRb hlen hwl hwa ⊢
 clear hM
 go_wp2_with fail
 go_loopg [29] M.length (fun n k wr => ∃ (j : Nat) (u : Value), j + n = M.length /\ k = .int .i64 j /\ Blk wr W2.heap.size 3 #[.int .i64 ((M.take j).foldl freeStep (m, [])).1] /\ Blk wr W1.heap.size 188 #[u] /\ Owns ESpn wr w4.heap.size 190 u ((M.take j).foldl freeStep (m, [])).2 /\ Owns ESpn wr W3.heap.size 190 (.slice Ab M.length db) M /\ KpY w4.heap.size W2.heap.size W1.heap.size w4 wr)
 case atStart => exact ⟨0, _, by omega, rfl, kA, kO, Owns.none_ _ _, hub, KpY.refl _ _ _ _⟩
 case round =>
  obtain ⟨j, u, hjq, rfl, ka, ko, hu, hub2, hK⟩ := hrel
  have Hjq := Lib.hid hjq
  have hjN : j <= M.length := by omega
  clear hjq
  have hsz := hK.size
  have hol := foldl_len (M.take j) (m, [])
  have htk : (M.take j).length <= j := List.length_take_le _ _
  simp only [List.length_nil] at hol
  have kC2 := hK.blk kC (by omega) (by omega) (by omega)
  by_cases hlt : j < M.length
  ·obtain ⟨bl, ol, rfl, hbl, g0, g1⟩ := hub2.rd.spn hlt
   have hsn := free_snoc (s := (m, [])) hlt rfl
   generalize M[j] = x at *
   obtain ⟨S, hS⟩ : ∃ S, (M.take j).foldl freeStep (m, []) = S := ⟨_, rfl⟩
   rw [hS] at hsn ka hu hol
   have Hsn := Lib.hid hsn
   clear hS hsn
   obtain ⟨W5, hW5, hB5, hk5, hl5⟩ := box1 wr #[.int .i64 x.fr, .int .i64 x.til] 190
   have ka5 := ka.ext hB5
   have ko5 := ko.ext hB5
   have hfa := fadd_any x.fr S.1 W2.heap.size W1.heap.size u S.2 w4.heap.size W5 (by omega) ka5 ko5 (by omega) (by omega) (by omega) (hu.ext hB5) (by omega)
   have s0 := hk5.cell
   have s1 := ka5.cell
   have s2 := ko5.cell
   go_wp2_with fail
   clear hW5 s0 s1 s2
   refine hfa.mono ?_
   clear hfa
   rintro e w6 ⟨⟨r, rfl⟩, u6, hu6, ko6, hK6, hf6⟩
   have hK5 := hK.ext (by omega) hB5
   have ka6 := hK6.blk ka5 (by omega) (by omega)
   have hs6 := hK6.size
   have hs5 := hB5.size
   have s3 := ka6.cell
   have s4 := ka6.lt
   have s5 := ka6.frozen
   have hk6 : Blk w6 wr.heap.size 190 #[.int .i64 x.fr, .int .i64 x.til] := (hf6 _ hk5.lt (by omega) (fun e => by have := (hu.block e).2; omega)).trans hk5
   have s6 := hk6.cell
   have s7 := hk6.lt
   obtain ⟨mm, hmm⟩ : ∃ mm, (if S.1 < x.til then x.til else S.1) = mm := ⟨_, rfl⟩
   have Hmm := Lib.hid ((max_set S.1 x.til).trans hmm)
   go_wp2
   go_roundg (M.length - (j + 1))
   case measure => have := Hjq.out; omega
   case rel => exact ⟨j + 1, u6, by have := Hjq.out; omega, by go_num, by rw [Hsn.out]; simp only [freeStep]; rw [Hmm.out]; exact ka6.set0 _, ko6.far (by simp; omega) _, by rw [Hsn.out]; exact hu6.kept (grown_setCell (World.grownBy.refl w6 (some W2.heap.size)) 0 _) (fun g hg e => by injection e with e; have := (hu6.block hg).1; omega), ((hub2.ext hB5).kpx hK6 hwl).kept (grown_setCell (World.grownBy.refl w6 (some W2.heap.size)) 0 _) hwa, (hK5.kpx hK6).setA 0 _⟩
  ·obtain rfl : j = M.length := by omega
   rw [List.take_length] at ka hu hol
   rw [<- HM.out, <- Hfw.out] at ka hu
   have hfa := fadd_any c.en (freeW c l i t).1 W2.heap.size W1.heap.size u (freeW c l i t).2 w4.heap.size wr (by omega) ka ko (by omega) (by omega) (by omega) hu (by rw [Hfw.out, HM.out]; omega)
   have s1 := kC2.cell
   have s2 := kC2.lt
   go_wp2_with fail
   refine hfa.mono ?_
   clear hfa
   rintro e w6 ⟨⟨r, rfl⟩, u6, hu6, ko6, hK6, hf6⟩
   have s3 := ko6.cell
   have s4 := ko6.lt
   go_wp2
   go_ret
   have hKK := hK.kpx hK6
   exact ⟨_, rfl, by rw [Hgc.out]; exact hu6.mono hE4.size, hKK.out hE4 hE4.size (by omega) (by omega)⟩
end
section
open Go.RowKit Go.Shelf
attribute [local go_sem] Oper.semAt_some
theorem fitL_some {n : Int} : ∀ {l : List Spn} {b : Int}, fitL n l = some b -> ∃ x ∈ l, n <= x.til - x.fr /\ b = x.fr
 | [], b, h => by cases h
 | x :: l, b, h => by
   unfold fitL at h
   split at h
   ·rename_i hx; injection h with h; exact ⟨x, by simp, hx, h.symm⟩
   ·obtain ⟨y, hy, h1⟩ := fitL_some h; exact ⟨y, by simp [hy], h1⟩
theorem fitL_ge {n : Int} {c : Con} {l : List Bk} {i t b : Int} (hb : BkIn c l i) (h : fitL n (freeL c l i t) = some b) : max c.st t <= b /\ b + n <= c.en := by
 obtain ⟨x, hx, h1, rfl⟩ := fitL_some h
 have := freeL_in hb x hx
 omega
def fitV : Option Int -> Value
 | some b => .tuple #[.int .i64 b, .int .i64 0]
 | none => .tuple #[.int .i64 0, .int .i64 16]
set_option maxRecDepth 100000 in
set_option maxHeartbeats 4000000 in
theorem Fit_any (Aq : Option Addr) (cq : Nat) (Ac : Option Addr) (cc : Nat) (p : Pln) (Al : Option Addr) (cl : Nat) (l : List Bk) (i t n : Int) (w : World) (h : PlnRd w Aq cq Ac cc p) (hl : Rd EBk w Al l) (h0 : p.bkChk l = 0) (hi : 0 <= i /\ i < p.cons.length) (hn : 1 <= n /\ n <= 65536) :
 Calls Tryz.prog 293 #[p.val Aq cq Ac cc, .slice Al l.length cl, .int .i64 i, .int .i64 t, .int .i64 n] w fun e w' => e = .returned (fitV (fitL ((gc p.cons i).dur n) (freeL (gc p.cons i) l i t))) /\ Ext w w' := by
 obtain ⟨W, hW, hB, hk, hlt⟩ := box1 w #[.slice Aq p.quo.length cq, .slice Ac p.cons.length cc] 68
 have hlm := (Pln.bkChk_ok h0).2.1
 have hok := Pln.ok_of (Pln.bkChk_ok h0).1
 have hin := bkIn_of h0 i
 have hcm := h.cm
 have hcl : i.toNat < p.cons.length := by omega
 have hck := bcheck_any Aq cq Ac cc p Al cl l i W (h.ext hB) (hl.ext hB) (by omega)
 have he0 : p.bkE l i = 0 := by unfold Pln.bkE; rw [if_pos h0, if_neg (by omega)]
 rw [he0] at hck
 have hcok := (hok.con _ (List.getElem_mem hcl)).1
 have hgc := gc_get hcl
 have hfr := fun w h hl => free_any Aq cq Ac cc p Al cl l i t w h hl hlm hi
 rw [hgc] at hin hfr ⊢
 obtain ⟨bc, oc, rfl, hbc, j0, j1, j2, j3, j4, j5, j6⟩ := ((h.c).ext hB).con hcl
 have hrd := h.ext hB
 have hl1 := hl.ext hB
 generalize p.cons[i.toNat] = c at *
 have hDu : ∀ w, Calls Tryz.prog 196 #[c.val, .int .i64 n] w fun e w' => e = .returned (.tuple #[.int .i64 (c.dur n), .int .i64 0]) /\ Ext w w' := fun w => by
  have h9 := Duration_any c n w
  have h8 : c.arg n = 0 := Con.arg_ok.2 ⟨hcok, hn⟩
  rw [Con.durR, if_pos h8, h8] at h9
  exact h9
 have hfl := freeL_in (t := t) hin
 have hfn := freeL_len c l i t
 have hst0 := hcok.st0
 have hen := hcok.en1
 have hrg0 := hcok.rng0
 have Hfl := Lib.hid hfl
 have hc := hk.cell
 unfold Pln.val at hck hfr ⊢
 unfold Con.val at hDu
 clear hok hin he0 hgc hfl hcok
 go_enter Tryz.func293, Tryz.ntmps293
 go_wp2_with fail
 clear hW
 refine hck.mono ?_
 clear hck
 rintro e w1 ⟨rfl, hb1⟩
 have hk1 := hk.ext hb1
 have hc1 := hk1.cell
 have hl1' := hk1.lt
 have k0 := hb1.cell_some j0
 have k1 := hb1.cell_some j1
 have k2 := hb1.cell_some j2
 have k3 := hb1.cell_some j3
 have k4 := hb1.cell_some j4
 have k5 := hb1.cell_some j5
 have k6 := hb1.cell_some j6
 clear j0 j1 j2 j3 j4 j5 j6 hc
 go_wp2_with fail
 refine (hDu _).mono ?_
 rintro e w2 ⟨rfl, hb2⟩
 have hE2 := hb1.trans hb2
 have hk2 := hk.ext hE2
 have hc2 := hk2.cell
 have hl2 := hk2.lt
 clear k0 k1 k2 k3 k4 k5 k6 hc1
 go_wp2_with fail
 refine (hfr _ (hrd.ext hE2) (hl1.ext hE2)).mono ?_
 clear hfr
 rintro e w3 ⟨u, rfl, hu, hb3⟩
 obtain ⟨Af, df, rfl, hRf⟩ := hu.form
 have hE3 := (hB.trans hE2).trans hb3
 obtain ⟨L, hL⟩ : ∃ L, freeL c l i t = L := ⟨_, rfl⟩
 obtain ⟨d, hd⟩ : ∃ d, c.dur n = d := ⟨_, rfl⟩
 have HL := Lib.hid hL
 have Hd := Lib.hid hd
 rw [hL] at hu hRf Hfl hfn ⊢
 rw [hd]
 clear hL hd
 go_wp2_with fail
 go_loopg [42] L.length (fun n k wr => ∃ j : Nat, j + n = L.length /\ k = .int .i64 j /\ Hid (fitL d L = fitL d (L.drop j)) /\ Ext w3 wr)
 case atStart => exact ⟨0, by omega, rfl, Lib.hid rfl, Ext.refl _⟩
 case round =>
  obtain ⟨j, hjq, rfl, hme, hx⟩ := hrel
  have Hjq := Lib.hid hjq
  have hjN : j <= L.length := by omega
  clear hjq
  by_cases hlt2 : j < L.length
  ·obtain ⟨bl, ol, rfl, hbl, g0, g1⟩ := (hRf.ext hx).spn hlt2
   have hx0 := Hfl.out _ (List.getElem_mem hlt2)
   have HS := Lib.hid (fitL_skip (n := d) hlt2)
   have HH := Lib.hid (fitL_here (n := d) hlt2)
   generalize L[j] = x at *
   obtain ⟨W2, hW2, hB2, hkb, hltW⟩ := box1 wr #[.int .i64 x.fr, .int .i64 x.til] 190
   have s0 := hkb.cell
   by_cases hd : d <= x.til - x.fr
   ·have HV := Lib.hid (hme.out.trans (HH.out hd))
    go_wp2
    go_ret2
    exact ⟨by rw [HL.out, Hd.out, HV.out]; rfl, (hE3.trans hx).trans hB2⟩
   ·have HV := Lib.hid (hme.out.trans (HS.out hd))
    have dd : decide (d <= x.til - x.fr) = false := decide_eq_false hd
    clear hd
    go_wp2
    go_roundg (L.length - (j + 1))
    case measure => have := Hjq.out; omega
    case rel => exact ⟨j + 1, by have := Hjq.out; omega, by go_num, HV, hx.trans hB2⟩
  ·obtain rfl : j = L.length := by omega
   have HV := Lib.hid (hme.out.trans (by rw [List.drop_length]))
   go_wp2
   go_ret2
   exact ⟨by rw [HL.out, Hd.out, HV.out]; rfl, hE3.trans hx⟩
set_option maxRecDepth 100000 in
set_option maxHeartbeats 4000000 in
theorem thop_any (Aq : Option Addr) (cq : Nat) (Ac : Option Addr) (cc : Nat) (p : Pln) (q : Req) (i b : Int) (w : World) (h : PlnRd w Aq cq Ac cc p) (hok : p.Ok) (hi : 0 <= i /\ i < p.cons.length) (hn : 1 <= q.size /\ q.size <= 65536) (hb : 0 <= b /\ b <= 1099511627776) :
 Calls Tryz.prog 325 #[p.val Aq cq Ac cc, q.val, .int .i64 i, .int .i64 b] w fun e w' => e = .returned (.agg #[.int .i64 i, .int .i64 b, .int .i64 (b + (gc p.cons i).dur q.size), .int .i64 (b + (gc p.cons i).dur q.size + (gc p.cons i).rng)]) /\ Ext w w' := by
 obtain ⟨W1, hW1, hB1, hk1, hkq, hl1, hlq⟩ := box2 w #[.slice Aq p.quo.length cq, .slice Ac p.cons.length cc] q.cells 68 85
 simp only [Req.cells] at hW1 hkq
 obtain ⟨W2, hW2, hB2, hk2, hl2⟩ := box1 W1 #[.int .i64 0, .int .i64 0, .int .i64 0, .int .i64 0] 94
 have hcm := h.cm
 have hcl : i.toNat < p.cons.length := by omega
 have hcok := (hok.con _ (List.getElem_mem hcl)).1
 rw [gc_get hcl]
 obtain ⟨bc, oc, rfl, hbc, j0, j1, j2, j3, j4, j5, j6⟩ := ((h.c.ext hB1).ext hB2).con hcl
 generalize p.cons[i.toNat] = c at *
 obtain ⟨W3, hW3, hB3, hk3, hl3⟩ := box1 W2 c.cells 61
 simp only [Con.cells] at hW3 hk3
 have hE3 := (hB1.trans hB2).trans hB3
 have hDu : ∀ w, Calls Tryz.prog 196 #[c.val, .int .i64 q.size] w fun e w' => e = .returned (.tuple #[.int .i64 (c.dur q.size), .int .i64 0]) /\ Ext w w' := fun w => by
  have h9 := Duration_any c q.size w
  have h8 : c.arg q.size = 0 := Con.arg_ok.2 ⟨hcok, hn⟩
  rw [Con.durR, if_pos h8, h8] at h9
  exact h9
 have dbd := Con.dur_bd hcok hn.1 hn.2
 have hrg0 := hcok.rng0
 have hrg1 := hcok.rng1
 have s0 := (hk1.ext hB2).cell
 have s1 := hk3.cell
 have s2 := ((hkq.ext hB2).ext hB3).cell
 have s3 := hk3.lt
 have s4 := ((hkq.ext hB2).ext hB3).lt
 clear hcok
 unfold Pln.val Req.val
 unfold Con.val at hDu
 go_enter Tryz.func325, Tryz.ntmps325
 go_wp2_with fail
 clear hW1 hW2 hW3 j0 j1 j2 j3 j4 j5 j6 s0
 refine (hDu _).mono ?_
 clear hDu
 rintro e w5 ⟨rfl, hb5⟩
 have s1 := (hk3.ext hb5).cell
 have s3 := (hk3.ext hb5).lt
 have hk4 := (hk2.ext hB3).ext hb5
 have hc4 := hk4.cell
 have hf4 := hk4.frozen
 have hl4 := hk4.lt
 have e1 : 0 <= b + c.dur q.size := by omega
 have e2 : b + c.dur q.size <= 2199023255552 := by omega
 have e3 : b + c.dur q.size + c.rng <= 2199023255552 := by omega
 obtain ⟨w7, hw7, hz7, hE7⟩ : ∃ w7, w5.setCells W1.heap.size 0 [.int .i64 i, .int .i64 b, .int .i64 (b + c.dur q.size), .int .i64 (b + c.dur q.size + c.rng)] = w7 /\ Blk w7 W1.heap.size 94 #[.int .i64 i, .int .i64 b, .int .i64 (b + c.dur q.size), .int .i64 (b + c.dur q.size + c.rng)] /\ Ext w w7 :=
  ⟨_, rfl, hk4.setCells_ [.int .i64 i, .int .i64 b, .int .i64 (b + c.dur q.size), .int .i64 (b + c.dur q.size + c.rng)] 0, ext_setCells (hE3.trans hb5) (by omega) 0 _⟩
 simp only [World.setCells, Nat.zero_add, Nat.reduceAdd] at hw7
 go_wp2
 have hc7 := hz7.cell
 refine bodyPost_ret (v := .agg #[.int .i64 i, .int .i64 b, .int .i64 (b + c.dur q.size), .int .i64 (b + c.dur q.size + c.rng)]) (by rw [results_cell1 rfl]; simp [asAddr, Result.andThen, hc7, go_sem]) rfl ?_
 exact ⟨rfl, hE7⟩
set_option maxRecDepth 100000 in
set_option maxHeartbeats 4000000 in
theorem tHop_any (Aq : Option Addr) (cq : Nat) (Ac : Option Addr) (cc : Nat) (p : Pln) (q : Req) (i b : Int) (w : World) (h : PlnRd w Aq cq Ac cc p) (hf : fineR p q = true) (hi : 0 <= i /\ i < p.cons.length) (hfit : (gc p.cons i).st <= b /\ b + (gc p.cons i).dur q.size <= (gc p.cons i).en) :
 Calls Tryz.prog 294 #[p.val Aq cq Ac cc, q.val, .int .i64 i, .int .i64 b] w fun e w' => e = .returned (.tuple #[.agg #[.int .i64 i, .int .i64 b, .int .i64 (b + (gc p.cons i).dur q.size), .int .i64 (b + (gc p.cons i).dur q.size + (gc p.cons i).rng)], .int .i64 0]) /\ Ext w w' := by
 obtain ⟨W1, hW1, hB1, hk1, hkq, hl1, hlq⟩ := box2 w #[.slice Aq p.quo.length cq, .slice Ac p.cons.length cc] q.cells 68 85
 simp only [Req.cells] at hW1 hkq
 obtain ⟨W2, hW2, hB2, hk2, hl2⟩ := box1 W1 #[.int .i64 0, .int .i64 0, .int .i64 0, .int .i64 0] 94
 have hcm := h.cm
 have hcl : i.toNat < p.cons.length := by omega
 have hf2 := fineR_of hf
 have hok := Pln.ok_of hf2.1
 have hqo := hf2.2
 simp only [Req.okB, decide_eq_true_eq] at hqo
 have hn : 1 <= q.size /\ q.size <= 65536 := by omega
 have hcok := (hok.con _ (List.getElem_mem hcl)).1
 have hgc := gc_get hcl
 have dbd := Con.dur_bd hcok hn.1 hn.2
 have hst0 := hcok.st0
 have hen1 := hcok.en1
 have hrg0 := hcok.rng0
 have hE2 := hB1.trans hB2
 have hrd := h.ext hE2
 have hreq := fun w h => tCheckRequest_any Aq cq Ac cc p q w h
 have hho := fun w h => thop_any Aq cq Ac cc p q i b w h hok hi hn (by rw [hgc] at hfit; omega)
 rw [hgc] at hfit hho ⊢
 obtain ⟨bc, oc, rfl, hbc, j0, j1, j2, j3, j4, j5, j6⟩ := ((h.c.ext hB1).ext hB2).con hcl
 generalize p.cons[i.toNat] = c at *
 have hFi : ∀ w, Calls Tryz.prog 324 #[c.val, .int .i64 b, .int .i64 q.size] w fun e w' => e = .returned (.bool true) /\ Ext w w' := fun w => by
  have h9 := Fits_any c b q.size w
  have h8 : c.arg q.size = 0 := Con.arg_ok.2 ⟨hcok, hn⟩
  have e : c.fitsR b q.size = true := by unfold Con.fitsR; rw [h8]; simp [Con.fitsB]; omega
  rw [e] at h9
  exact h9
 have s0 := (hk1.ext hB2).cell
 have s1 := (hkq.ext hB2).cell
 have s2 := (hk1.ext hB2).lt
 have s3 := (hkq.ext hB2).lt
 have HF := Lib.hid hf
 unfold Pln.val Req.val at hreq hho ⊢
 unfold Con.val at hFi
 clear hcok hok hf2 hf hqo hgc
 go_enter Tryz.func294, Tryz.ntmps294
 go_wp2_with fail
 clear hW1 hW2
 refine (hreq _ hrd).mono ?_
 clear hreq
 rintro e w4 ⟨k, rfl, hk, hb4⟩
 obtain rfl : k = 0 := hk.2 HF.out
 clear hk s0 s1 s2 s3
 have hkp4 := (hk1.ext hB2).ext hb4
 have hkq4 := (hkq.ext hB2).ext hb4
 have s0 := hkp4.cell
 have s1 := hkq4.cell
 have s2 := hkp4.lt
 have s3 := hkq4.lt
 replace j0 := hb4.cell_some j0
 replace j1 := hb4.cell_some j1
 replace j2 := hb4.cell_some j2
 replace j3 := hb4.cell_some j3
 replace j4 := hb4.cell_some j4
 replace j5 := hb4.cell_some j5
 replace j6 := hb4.cell_some j6
 have hbc4 := Nat.lt_of_lt_of_le hbc hb4.size
 go_wp2_with fail
 have hN := Near.refl w4
 go_region_held3 (fun w' => Ext w4 w' /\ ∀ b o, b < w4.heap.size -> w'.cell? ⟨b, o, none⟩ = w4.cell? ⟨b, o, none⟩) (first | exact hN.drew | exact Near.step (by assumption) hb9 | assumption)
  (first | (go_at_call 324; refine (hFi _).mono ?_; rintro e w9 ⟨rfl, hb9⟩))
 all_goals
  obtain ⟨hE, hC⟩ := ‹Ext w4 _ /\ _›
  clear hN j0 j1 j2 j3 j4 j5 j6
  have hkp5 := hkp4.ext hE
  have hkq5 := hkq4.ext hE
  have s2 := hkp5.lt
  have s3 := hkq5.lt
  go_wp2_with fail
  refine (hho _ ((hrd.ext hb4).ext hE)).mono ?_
  clear hho
  rintro e w5 ⟨rfl, hb5⟩
  have hEE := ((hE2.trans hb4).trans hE).trans hb5
  have hk4 := ((hk2.ext hb4).ext hE).ext hb5
  have hc4 := hk4.cell
  have hf4 := hk4.frozen
  have hl4 := hk4.lt
  obtain ⟨w7, hw7, hz7, hE7⟩ : ∃ w7, w5.setCells W1.heap.size 0 [.int .i64 i, .int .i64 b, .int .i64 (b + c.dur q.size), .int .i64 (b + c.dur q.size + c.rng)] = w7 /\ Blk w7 W1.heap.size 94 #[.int .i64 i, .int .i64 b, .int .i64 (b + c.dur q.size), .int .i64 (b + c.dur q.size + c.rng)] /\ Ext w w7 :=
   ⟨_, rfl, hk4.setCells_ [.int .i64 i, .int .i64 b, .int .i64 (b + c.dur q.size), .int .i64 (b + c.dur q.size + c.rng)] 0, ext_setCells hEE hB1.size 0 _⟩
  simp only [World.setCells, Nat.zero_add, Nat.reduceAdd] at hw7
  go_wp2
  have hc7 := hz7.cell
  refine bodyPost_ret (v := .tuple #[.agg #[.int .i64 i, .int .i64 b, .int .i64 (b + c.dur q.size), .int .i64 (b + c.dur q.size + c.rng)], .int .i64 0]) (by rw [results_cell_tmp rfl]; simp [asAddr, Result.andThen, hc7, go_sem]) rfl ?_
  exact ⟨rfl, hE7⟩
end
end Go.Proofs.YtemkpimngbbpkaaGreat
