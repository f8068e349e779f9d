/- Layer 28 (storage): compare, valid, Check; layer 29: CheckTables. -/
import Derived.BigQuiet
import Derived.Test.YtemkpimngbbpkaaGreatQt29
namespace Go.Proofs.YtemkpimngbbpkaaGreat
set_option linter.unusedVariables false
set_option linter.unusedSimpArgs false
open Go.RowKit Go.Shelf
attribute [local go_sem] Oper.semAt_some
def Pln.hdOk (p : Pln) (h : Hd) : Bool := decide (0 <= h.nod /\ h.nod < p.quo.length /\ 0 <= h.fr /\ h.fr < h.til /\ h.til <= 1099511627776 /\ 1 <= h.siz /\ h.siz <= 65536 /\ 0 <= h.tic /\ h.tic <= 1152921504606846976)
theorem hdOk_b {p : Pln} {h : Hd} (e : p.hdOk h = true) : HdB h := by
 have := of_decide_eq_true e
 unfold HdB; omega
def hdCmp (a b : Hd) : Int := orL [cmpI a.nod b.nod, cmpI a.fr b.fr, cmpI a.til b.til, cmpI a.tic b.tic, cmpI a.siz b.siz]
def ghd (l : List Hd) (i : Nat) : Hd := l.getD i ⟨0, 0, 0, 0, 0⟩
theorem ghd_get {l : List Hd} {i : Nat} (h : i < l.length) : ghd l i = l[i] := by simp [ghd, h]
def Pln.hdAt (p : Pln) (l : List Hd) (i : Nat) : Int := if p.hdOk (ghd l i) = false then 2 else if i = 0 then 0 else if 0 < hdCmp (ghd l (i - 1)) (ghd l i) then 9 else 0
def Pln.hdErr (p : Pln) (l : List Hd) : Nat -> Int
 | 0 => 0
 | k + 1 => if p.hdErr l k = 0 then p.hdAt l k else p.hdErr l k
theorem Pln.hdErr_up {p : Pln} {l : List Hd} {k : Nat} (h : p.hdErr l k ≠ 0) : ∀ d, p.hdErr l (k + d) = p.hdErr l k
 | 0 => rfl
 | d + 1 => by
   have e := Pln.hdErr_up h d
   show (if p.hdErr l (k + d) = 0 then _ else p.hdErr l (k + d)) = _
   rw [if_neg (by rw [e]; exact h), e]
theorem Pln.hdErr_to {p : Pln} {l : List Hd} {k n : Nat} (h : p.hdErr l k ≠ 0) (hk : k <= n) : p.hdErr l n = p.hdErr l k := by
 obtain ⟨d, rfl⟩ : ∃ d, n = k + d := ⟨n - k, by omega⟩
 exact Pln.hdErr_up h d
theorem Pln.hdErr_step {p : Pln} {l : List Hd} {k n : Nat} (h : p.hdErr l k = 0) (hk : k < n) (he : p.hdAt l k ≠ 0) : p.hdErr l n = p.hdAt l k := by
 have h1 : p.hdErr l (k + 1) = p.hdAt l k := by show (if p.hdErr l k = 0 then _ else _) = _; rw [if_pos h]
 rw [<- h1]
 exact Pln.hdErr_to (by rw [h1]; exact he) hk
theorem Pln.hdErr_next {p : Pln} {l : List Hd} {k : Nat} (h : p.hdErr l k = 0) (he : p.hdAt l k = 0) : p.hdErr l (k + 1) = 0 := by
 show (if p.hdErr l k = 0 then _ else _) = _; rw [if_pos h, he]
theorem Pln.hdErr_ok {p : Pln} {l : List Hd} : ∀ {j : Nat}, p.hdErr l j = 0 -> ∀ (k : Nat) (hk : k < l.length), k < j -> p.hdOk l[k] = true
 | 0, _, k, hk, h => by omega
 | j + 1, h, k, hk, hkj => by
   have h0 : p.hdErr l j = 0 := by
    apply Classical.byContradiction
    intro hn
    exact hn ((Pln.hdErr_to (n := j + 1) hn (by omega)).symm.trans h)
   by_cases e : k < j
   ·exact Pln.hdErr_ok h0 k hk e
   ·obtain rfl : k = j := by omega
    have h2 : p.hdAt l k = 0 := by
     have h3 : p.hdErr l (k + 1) = if p.hdErr l k = 0 then p.hdAt l k else p.hdErr l k := rfl
     rw [if_pos h0] at h3
     exact h3.symm.trans h
    unfold Pln.hdAt at h2
    rw [ghd_get hk] at h2
    cases hv : p.hdOk l[k]
    ·rw [if_pos hv] at h2; cases h2
    ·rfl
def Pln.stF (p : Pln) (l : List Hd) (k : Nat) : Prop := ∃ n, n < k /\ p.quo.getD n 0 < mostL (levL l n)
open Classical in
noncomputable def Pln.stChk (p : Pln) (l : List Hd) : Int := if p.chk = 0 then (if 512 < l.length then 4 else if p.hdErr l l.length = 0 then (if p.stF l p.quo.length then 15 else 0) else p.hdErr l l.length) else 1
theorem hdAt_2 {p : Pln} {l : List Hd} {i : Nat} {b : Hd} (h : ghd l i = b) (hv : p.hdOk b = false) : p.hdAt l i = 2 := by
 unfold Pln.hdAt; rw [h, if_pos hv]
theorem hdAt_0 {p : Pln} {l : List Hd} {b : Hd} (h : ghd l 0 = b) (hv : p.hdOk b = true) : p.hdAt l 0 = 0 := by
 unfold Pln.hdAt; rw [h, if_neg (by rw [hv]; decide), if_pos rfl]
theorem hdAt_9 {p : Pln} {l : List Hd} {m : Nat} {a b : Hd} (h : ghd l (m + 1) = b) (ha : ghd l m = a) (hv : p.hdOk b = true) (hc : 0 < hdCmp a b) : p.hdAt l (m + 1) = 9 := by
 unfold Pln.hdAt; rw [h, if_neg (by rw [hv]; decide), if_neg (by omega), Nat.add_sub_cancel, ha, if_pos hc]
theorem hdAt_ok {p : Pln} {l : List Hd} {m : Nat} {a b : Hd} (h : ghd l (m + 1) = b) (ha : ghd l m = a) (hv : p.hdOk b = true) (hc : ¬ 0 < hdCmp a b) : p.hdAt l (m + 1) = 0 := by
 unfold Pln.hdAt; rw [h, if_neg (by rw [hv]; decide), if_neg (by omega), Nat.add_sub_cancel, ha, if_neg hc]
theorem rd_blk5 {w : World} {g : Nat} {t : TypeId} {a b c d e : Int} (h : Blk w g t #[.int .i64 a, .int .i64 b, .int .i64 c, .int .i64 d, .int .i64 e]) : Rd EInt w (some ⟨g, 0, none⟩) [a, b, c, d, e] := by
 refine ⟨rfl, fun _ => ⟨_, rfl, h.lt, fun j u hu => ?_⟩⟩
 rw [Addr.add_lit, Nat.zero_add, h.cell]
 rw [<- hu]
 match j with
 | 0 | 1 | 2 | 3 | 4 => rfl
 | j + 5 => rfl
theorem rd_new5 (W : World) (t : TypeId) (a b c d e : Int) : Rd EInt (W.alloc (.cells #[.int .i64 a, .int .i64 b, .int .i64 c, .int .i64 d, .int .i64 e] t)).drew (some ⟨W.heap.size, 0, none⟩) [a, b, c, d, e] := rd_blk5 (t := t) (show Blk (W.alloc (.cells #[.int .i64 a, .int .i64 b, .int .i64 c, .int .i64 d, .int .i64 e] t)).drew W.heap.size t #[.int .i64 a, .int .i64 b, .int .i64 c, .int .i64 d, .int .i64 e] from Blk.new W t _)
set_option maxHeartbeats 8000000 in
theorem hcompare_any (a b : Hd) (w : World) :
 Calls Tryz.prog 240 #[a.val, b.val] w fun e w' => e = .returned (.int .i64 (hdCmp a b)) /\ Ext w w' := by
 obtain ⟨W, hW, hB, hk, hk2, hlt, hlt2⟩ := box2 w #[.int .i64 a.nod, .int .i64 a.fr, .int .i64 a.til, .int .i64 a.siz, .int .i64 a.tic] #[.int .i64 b.nod, .int .i64 b.fr, .int .i64 b.til, .int .i64 b.siz, .int .i64 b.tic] 350 350
 have hc := hk.cell
 have hc2 := hk2.cell
 unfold Hd.val
 go_enter Tryz.func240, Tryz.ntmps240
 go_wp2_with fail
 clear hW
 have hN := Near.refl W
 go_region_held3 (fun w' => Ext W w' /\ ∀ b o, b < W.heap.size -> w'.cell? ⟨b, o, none⟩ = W.cell? ⟨b, o, none⟩) (first | exact hN.drew | exact near_alloc (by assumption) _ | assumption)
  (first | (go_at_call 68; refine (cmp_any _ _ _).mono ?_; rintro e w1 ⟨rfl, rfl⟩) | (go_at_call 67; refine (or_any _ 5 [cmpI a.nod b.nod, cmpI a.fr b.fr, cmpI a.til b.til, cmpI a.tic b.tic, cmpI a.siz b.siz] _ (by first | exact rd_blk5 (Blk.new _ _ _) | exact rd_new5 _ _ _ _ _ _ _) (by simp)).mono ?_; rintro e w1 ⟨rfl, rfl⟩))
 all_goals
  clear hN
  go_wp2
  go_ret
  exact ⟨rfl, hB.trans (And.left ‹Ext W _ /\ _›)⟩
theorem hdOk_no {p : Pln} {h : Hd} (e : ¬ (0 <= h.nod /\ h.nod < p.quo.length /\ 0 <= h.fr /\ h.fr < h.til /\ h.til <= 1099511627776 /\ 1 <= h.siz /\ h.siz <= 65536 /\ 0 <= h.tic /\ h.tic <= 1152921504606846976)) : p.hdOk h = false := decide_eq_false e
theorem hdOk_yes {p : Pln} {h : Hd} (e : 0 <= h.nod /\ h.nod < p.quo.length /\ 0 <= h.fr /\ h.fr < h.til /\ h.til <= 1099511627776 /\ 1 <= h.siz /\ h.siz <= 65536 /\ 0 <= h.tic /\ h.tic <= 1152921504606846976) : p.hdOk h = true := decide_eq_true e
set_option maxRecDepth 100000 in
set_option maxHeartbeats 8000000 in
theorem hvalid_any (Aq : Option Addr) (cq : Nat) (Ac : Option Addr) (cc : Nat) (p : Pln) (b : Hd) (w : World) (hqm : p.quo.length <= 1000000) :
 Calls Tryz.prog 239 #[p.val Aq cq Ac cc, b.val] w fun e w' => e = .returned (.bool (p.hdOk b)) /\ Ext w w' := by
 obtain ⟨W, hW, hB, hk, hk2, hlt, hlt2⟩ := box2 w #[.slice Aq p.quo.length cq, .slice Ac p.cons.length cc] #[.int .i64 b.nod, .int .i64 b.fr, .int .i64 b.til, .int .i64 b.siz, .int .i64 b.tic] 68 350
 have hc := hk.cell
 have hc2 := hk2.cell
 unfold Pln.val Hd.val
 by_cases hg : 0 <= b.nod /\ b.nod < p.quo.length /\ 0 <= b.fr /\ b.fr < b.til /\ b.til <= 1099511627776 /\ 1 <= b.siz /\ b.siz <= 65536 /\ 0 <= b.tic /\ b.tic <= 1152921504606846976
 ·have HV := Lib.hid (hdOk_yes hg)
  obtain ⟨g1, g2, g3, g4, g5, g6, g7, g8, g9⟩ := hg
  go_enter Tryz.func239, Tryz.ntmps239
  go_wp2
  go_ret
  exact ⟨by rw [HV.out]; first | rfl | exact ret_bool (decide_eq_false (by omega)) | exact ret_bool (decide_eq_true (by omega)), hB⟩
 ·have HV := Lib.hid (hdOk_no (p := p) hg)
  have hw2 : b.nod < 0 ∨ (0 <= b.nod /\ (p.quo.length : Int) <= b.nod) ∨ (0 <= b.nod /\ b.nod < p.quo.length /\ b.fr < 0) ∨ (0 <= b.nod /\ b.nod < p.quo.length /\ 0 <= b.fr /\ b.til <= b.fr) ∨ (0 <= b.nod /\ b.nod < p.quo.length /\ 0 <= b.fr /\ b.fr < b.til /\ 1099511627776 < b.til)
   ∨ (0 <= b.nod /\ b.nod < p.quo.length /\ 0 <= b.fr /\ b.fr < b.til /\ b.til <= 1099511627776 /\ b.siz < 1) ∨ (0 <= b.nod /\ b.nod < p.quo.length /\ 0 <= b.fr /\ b.fr < b.til /\ b.til <= 1099511627776 /\ 1 <= b.siz /\ 65536 < b.siz)
   ∨ (0 <= b.nod /\ b.nod < p.quo.length /\ 0 <= b.fr /\ b.fr < b.til /\ b.til <= 1099511627776 /\ 1 <= b.siz /\ b.siz <= 65536 /\ b.tic < 0) ∨ (0 <= b.nod /\ b.nod < p.quo.length /\ 0 <= b.fr /\ b.fr < b.til /\ b.til <= 1099511627776 /\ 1 <= b.siz /\ b.siz <= 65536 /\ 0 <= b.tic /\ 1152921504606846976 < b.tic) := by omega
  clear hg
  rcases hw2 with g1 | ⟨g1, g2⟩ | ⟨g1, g2, g3⟩ | ⟨g1, g2, g3, g4⟩ | ⟨g1, g2, g3, g4, g5⟩ | ⟨g1, g2, g3, g4, g5, g6⟩ | ⟨g1, g2, g3, g4, g5, g6, g7⟩ | ⟨g1, g2, g3, g4, g5, g6, g7, g8⟩ | ⟨g1, g2, g3, g4, g5, g6, g7, g8, g9⟩
  all_goals
   go_enter Tryz.func239, Tryz.ntmps239
   go_wp2
   go_ret
   exact ⟨by rw [HV.out]; first | rfl | exact ret_bool (decide_eq_false (by omega)) | exact ret_bool (decide_eq_true (by omega)), hB⟩
end Go.Proofs.YtemkpimngbbpkaaGreat
