/- Bookings: one more, plain. · Bookings: Add. -/
import Derived.Test.YtemkpimngbbpkaaGreatQt30
import Derived.Test.YtemkpimngbbpkaaGreatQt47
import Derived.Test.YtemkpimngbbpkaaGreatQt48
namespace Go.Proofs.YtemkpimngbbpkaaGreat
set_option linter.unusedVariables false
set_option linter.unusedSimpArgs false
section
open Go.RowKit
theorem bkCmp_lt {a b : Bk} : bkCmp a b < 0 ↔ a.con < b.con ∨ (a.con = b.con /\ a.beg < b.beg) := by
 unfold bkCmp orL orL orL cmpI
 repeat' split
 all_goals omega
theorem bkCmp_ge {a b : Bk} : 0 <= bkCmp a b ↔ ¬ (a.con < b.con ∨ (a.con = b.con /\ a.beg < b.beg)) := by
 rw [<- bkCmp_lt]
 omega
def insB (l : List Bk) (i : Nat) (b : Bk) : List Bk := l.take i ++ b :: l.drop i
theorem insB_len {l : List Bk} {i : Nat} {b : Bk} (hi : i <= l.length) : (insB l i b).length = l.length + 1 := by
 unfold insB
 simp
 omega
theorem insB_at {l : List Bk} {i : Nat} {b : Bk} (hi : i <= l.length) (k : Nat) (hk : k < l.length + 1) : gbk (insB l i b) k = if k < i then gbk l k else if k = i then b else gbk l (k - 1) := by
 unfold gbk insB
 simp only [List.getD_eq_getElem?_getD]
 have hl : (l.take i).length = i := by rw [List.length_take]; omega
 by_cases h1 : k < i
 ·rw [if_pos h1, List.getElem?_append_left (by omega), List.getElem?_take_of_lt h1]
 ·rw [if_neg h1, List.getElem?_append_right (by omega), hl]
  by_cases h2 : k = i
  ·subst h2
   simp
  ·rw [if_neg h2]
   obtain ⟨d, rfl⟩ : ∃ d, k = i + (d + 1) := ⟨k - i - 1, by omega⟩
   rw [show i + (d + 1) - i = d + 1 by omega, List.getElem?_cons_succ, List.getElem?_drop]
   congr 2
theorem insB_mem {l : List Bk} {i : Nat} {b x : Bk} (h : x ∈ insB l i b) : x = b ∨ x ∈ l := by
 unfold insB at h
 rcases List.mem_append.1 h with h | h
 ·exact .inr (List.mem_of_mem_take h)
 ·rcases List.mem_cons.1 h with h | h
  ·exact .inl h
  ·exact .inr (List.mem_of_mem_drop h)
theorem bkChk_of {p : Pln} {l : List Bk} (h1 : p.chk = 0) (h2 : l.length <= 512) (h3 : ∀ k, k < l.length -> p.bkAt l k = 0) : p.bkChk l = 0 := by
 have : ∀ n, n <= l.length -> p.bkErr l n = 0 := by
  intro n
  induction n with
  | zero => exact fun _ => rfl
  | succ n ih => exact fun hn => Pln.bkErr_next (ih (by omega)) (h3 n (by omega))
 unfold Pln.bkChk
 rw [if_pos h1, if_neg (by omega)]
 exact this _ (Nat.le_refl _)
theorem bkAt_iff {p : Pln} {l : List Bk} {k : Nat} : p.bkAt l k = 0 ↔ p.bkOk (gbk l k) = true /\ (k ≠ 0 -> ((gbk l (k - 1)).con < (gbk l k).con ∨ ((gbk l (k - 1)).con = (gbk l k).con /\ (gbk l (k - 1)).beg < (gbk l k).beg)) /\ ¬ ((gbk l (k - 1)).con = (gbk l k).con /\ (gbk l k).beg < (gbk l (k - 1)).en)) := by
 unfold Pln.bkAt
 simp only [bkCmp_ge]
 cases p.bkOk (gbk l k) with
 | false => simp
 | true =>
   by_cases h0 : k = 0
   ·subst h0
    simp
   ·rw [if_neg (by simp), if_neg h0]
    split
    ·rename_i h1
     simp only [true_and]
     constructor
     ·intro h; cases h
     ·intro h; exact absurd (h h0).1 h1
    ·rename_i h1
     split
     ·rename_i h2
      simp only [true_and]
      constructor
      ·intro h; cases h
      ·intro h; exact absurd h2 (h h0).2
     ·rename_i h2
      simp only [true_and]
      exact ⟨fun _ _ => ⟨by apply Classical.byContradiction; exact h1, h2⟩, fun _ => trivial⟩
theorem bkOk_lt {p : Pln} {b : Bk} (h : p.bkOk b = true) : b.beg < b.en := by
 have := of_decide_eq_true h
 omega
theorem bs_mono {p : Pln} {l : List Bk} (h : p.bkChk l = 0) (b : Bk) : ∀ x y, x <= y -> y < l.length -> bkCmp (gbk l y) b < 0 -> bkCmp (gbk l x) b < 0 := by
 intro x y hxy hy h1
 rcases Nat.eq_or_lt_of_le hxy with rfl | hlt
 ·exact h1
 ·rw [bkCmp_lt] at h1 ⊢
  have h2 := bk_pair h (j := x) (y - (x + 1)) (by omega)
  rw [show x + 1 + (y - (x + 1)) = y by omega] at h2
  have h3 : p.bkOk (gbk l x) = true := by rw [gbk_get (show x < l.length by omega)]; exact (Pln.bkChk_ok h).2.2 _ (List.getElem_mem _)
  have h4 := bkOk_lt h3
  rcases Int.lt_or_eq_of_le h2.1 with h5 | h5
  ·omega
  ·have := h2.2 h5
   omega
theorem ins_chk {p : Pln} {l : List Bk} {b : Bk} {i : Nat} (h : p.bkChk l = 0) (hb : p.bkOk b = true) (hf : FreeH l b.con b.beg b.en) (hl : l.length < 512) (hs : BsP l b i) : p.bkChk (insB l i b) = 0 := by
 have hok : ∀ k, k < l.length -> p.bkOk (gbk l k) = true := fun k hk => by rw [gbk_get hk]; exact (Pln.bkChk_ok h).2.2 _ (List.getElem_mem _)
 have hfr : ∀ k, k < l.length -> (gbk l k).con = b.con -> ¬ ((gbk l k).beg < b.en /\ b.beg < (gbk l k).en) := fun k hk => by rw [gbk_get hk]; exact hf _ (List.getElem_mem _)
 have hbl := bkOk_lt hb
 refine bkChk_of (Pln.bkChk_ok h).1 (by rw [insB_len hs.le]; omega) (fun k hk => ?_)
 rw [insB_len hs.le] at hk
 rw [bkAt_iff, insB_at hs.le k hk]
 by_cases h1 : k < i
 ·have hil := hs.le
  have h0 := bkErr_at (bkChk_err h) k (by omega)
  rw [bkAt_iff] at h0
  rw [if_pos h1]
  refine ⟨h0.1, fun hk0 => ?_⟩
  rw [insB_at hs.le (k - 1) (by omega), if_pos (by omega)]
  exact h0.2 hk0
 ·rw [if_neg h1]
  by_cases h2 : k = i
  ·subst h2
   rw [if_pos rfl]
   refine ⟨hb, fun hk0 => ?_⟩
   rw [insB_at hs.le (k - 1) (by omega), if_pos (by omega)]
   have h3 := bkCmp_lt.1 (hs.lo (k - 1) (by omega))
   have h4 := hfr (k - 1) (by have := hs.le; omega)
   refine ⟨h3, fun h5 => ?_⟩
   exact h4 h5.1 ⟨by omega, h5.2⟩
  ·rw [if_neg h2]
   refine ⟨hok _ (by omega), fun hk0 => ?_⟩
   rw [insB_at hs.le (k - 1) (by omega), if_neg (by omega)]
   by_cases h3 : k - 1 = i
   ·rw [if_pos h3]
    have h4 := hs.hi (k - 1) (by omega) (by omega)
    rw [bkCmp_lt] at h4
    have h5 := hfr (k - 1) (by omega)
    have h6 := bkOk_lt (hok (k - 1) (by omega))
    generalize gbk l (k - 1) = x at *
    have h7 : b.con < x.con ∨ (b.con = x.con /\ x.en <= b.beg) ∨ (b.con = x.con /\ b.en <= x.beg) := by
     by_cases e : x.con = b.con
     ·have := h5 e; omega
     ·omega
    constructor <;> omega
   ·rw [if_neg h3]
    have h0 := bkErr_at (bkChk_err h) (k - 1) (by omega)
    rw [bkAt_iff] at h0
    exact h0.2 (by omega)
theorem busy_free {l : List Bk} {b : Bk} (hf : FreeH l b.con b.beg b.en) : ∀ x ∈ busyL l b.con, ¬ (x.fr < b.en /\ b.beg < x.til) := by
 intro x hx
 unfold busyL at hx
 obtain ⟨y, hy, rfl⟩ := List.mem_map.1 hx
 obtain ⟨h1, h2⟩ := List.mem_filter.1 hy
 exact hf y h1 (by simpa using h2)
end
section
open Go.RowKit Go.Shelf
attribute [local go_sem] Oper.semAt_some
set_option maxHeartbeats 2000000 in
theorem add1_any (g : Nat) (b : Bk) (x : Spn) (w : World) (hg : Blk w g 100 #[.int .i64 b.con, .int .i64 b.beg, .int .i64 b.en, .int .i64 b.tic]) (hx : ¬ (x.fr < b.en /\ b.beg < x.til)) :
 Calls Tryz.prog 91 #[.agg #[.int .i64 x.fr, .int .i64 x.til], .pointer (some ⟨g, 0, none⟩)] w fun e w' => e = .returned (.bool false) /\ Ext w w' := by
 obtain ⟨bc, bb, be, bt⟩ := b
 obtain ⟨fr, til⟩ := x
 dsimp only at *
 obtain ⟨W1, hW1, hB1, hk1, hl1⟩ := box1 w #[.int .i64 fr, .int .i64 til] 190
 have kg := hg.ext hB1
 have c1 := kg.cell
 have c2 := kg.lt
 have c3 := hk1.cell
 by_cases h1 : fr < be
 ·have d1 : decide (fr < be) = true := decide_eq_true h1
  have d2 : decide (bb < til) = false := decide_eq_false (fun h => hx ⟨h1, h⟩)
  clear h1 hx
  go_enter Tryz.func91, Tryz.ntmps91
  go_wp2
  clear hW1
  go_ret
  exact ⟨rfl, hB1⟩
 ·have d1 : decide (fr < be) = false := decide_eq_false h1
  clear h1 hx
  go_enter Tryz.func91, Tryz.ntmps91
  go_wp2
  clear hW1
  go_ret
  exact ⟨rfl, hB1⟩
set_option maxHeartbeats 4000000 in
theorem indexSpn_none (A : Option Addr) (c : Nat) (l : List Spn) (g : Nat) (b : Bk) (w : World) (hA : Rd ESpn w A l) (hmax : l.length <= 1000000) (hg : Blk w g 100 #[.int .i64 b.con, .int .i64 b.beg, .int .i64 b.en, .int .i64 b.tic]) (hno : ∀ x ∈ l, ¬ (x.fr < b.en /\ b.beg < x.til)) :
 Calls Tryz.prog 169 #[.slice A l.length c, .func (.func 91) #[] #[.pointer (some ⟨g, 0, none⟩)]] w fun e w' => e = .returned (.int .i64 (-1)) /\ Ext w w' := by
 have hen : ∀ args w, (callFunc 91 args).run Tryz.prog w = .ok (.enter 91 args) w := enters_of Tryz.func91 (by kernel_rfl) rfl
 have HN := Lib.hid hno
 clear hno
 go_enter Tryz.func169, Tryz.ntmps169
 go_wp2
 go_loopg [8] l.length (fun n i wr => ∃ k : Nat, k + n = l.length /\ i = .int .i64 k /\ Ext w wr)
 case atStart => exact ⟨0, by omega, by go_num, Ext.refl _⟩
 case round =>
  obtain ⟨k, hkn, rfl, hE⟩ := hrel
  have Hkn := Lib.hid hkn
  by_cases hlt : k < l.length
  ·obtain ⟨b0, o0, rfl, hb0, c0, c1⟩ := (hA.ext hE).spn hlt
   have hpx := HN.out _ (List.getElem_mem hlt)
   generalize l[k] = x at *
   have hcl := add1_any g b x wr (hg.ext hE) hpx
   obtain ⟨fr, til⟩ := x
   dsimp only at *
   clear hkn hpx
   go_wp2_with fail
   refine hcl.mono ?_
   rintro e w1 ⟨rfl, hb1⟩
   go_wp2
   go_roundg (gk - 1)
   case measure => have := Hkn.out; omega
   case rel => exact ⟨k + 1, by have := Hkn.out; omega, by go_num, hE.trans hb1⟩
  ·go_wp2
   go_ret
   exact ⟨rfl, hE⟩
set_option maxHeartbeats 1000000 in
theorem containsSpn_none (A : Option Addr) (c : Nat) (l : List Spn) (g : Nat) (b : Bk) (w : World) (hA : Rd ESpn w A l) (hmax : l.length <= 1000000) (hg : Blk w g 100 #[.int .i64 b.con, .int .i64 b.beg, .int .i64 b.en, .int .i64 b.tic]) (hno : ∀ x ∈ l, ¬ (x.fr < b.en /\ b.beg < x.til)) :
 Calls Tryz.prog 89 #[.slice A l.length c, .func (.func 91) #[] #[.pointer (some ⟨g, 0, none⟩)]] w fun e w' => e = .returned (.bool false) /\ Ext w w' := by
 go_enter Tryz.func89, Tryz.ntmps89
 go_wp2_with fail
 refine (indexSpn_none A c l g b w hA hmax hg hno).mono ?_
 rintro e w1 ⟨rfl, hb⟩
 go_wp2
 go_ret
 exact ⟨rfl, hb⟩
set_option maxRecDepth 100000 in
set_option maxHeartbeats 4000000 in
theorem add_any (Aq : Option Addr) (cq : Nat) (Ac : Option Addr) (cc : Nat) (p : Pln) (A : Option Addr) (c : Nat) (l : List Bk) (b : Bk) (w : World) (h : PlnRd w Aq cq Ac cc p) (hA : Rd EBk w A l) (h0 : p.bkChk l = 0) (hb : p.bkOk b = true) (hl : l.length < 512) (hf : FreeH l b.con b.beg b.en) :
 Calls Tryz.prog 28 #[p.val Aq cq Ac cc, .slice A l.length c, b.val] w fun e w' => ∃ i u, e = .returned (.tuple #[u, .int .i64 0]) /\ BsP l b i /\ Owns EBk w' w.heap.size 100 u (l.take i ++ b :: l.drop i) /\ Ext w w' := by
 have g1 := fun w h hA => bCheck_any Aq cq Ac cc p A c l w h hA (by omega)
 rw [h0] at g1
 have g2 := fun w h => bvalid_any Aq cq Ac cc p b w h
 rw [hb] at g2
 have g3 := fun w h => Busy_any A c l b.con w h (by omega)
 have hbl : (busyL l b.con).length <= l.length := by
  unfold busyL
  rw [List.length_map]
  exact List.length_filter_le _ _
 have G4 := Lib.hid (fun A' c' g w hA hg => containsSpn_none A' c' (busyL l b.con) g b w hA (by omega) hg (busy_free hf))
 clear hbl
 have g5 := fun w hA => insert_any A c l b w hA (by omega) (bs_mono h0 b)
 obtain ⟨bs, hbs⟩ : ∃ bs, busyL l b.con = bs := ⟨_, rfl⟩
 rw [hbs] at g3 G4
 have HRD := Lib.hid h
 clear hbs h0 hb hf h
 obtain ⟨bc, bb, be, bt⟩ := b
 unfold Bk.val at g2 g5 ⊢
 unfold Pln.val at g1 g2 ⊢
 dsimp only at g2 g3 G4 g5 ⊢
 have G1 := Lib.hid g1
 have G2 := Lib.hid g2
 have G3 := Lib.hid g3
 have G5 := Lib.hid g5
 clear g1 g2 g3 g5
 have dl : ((l.length : Int) == 512) = false := by rw [beq_eq_false_iff_ne]; omega
 have dl2 : (l.length == 512) = false := by rw [beq_eq_false_iff_ne]; omega
 obtain ⟨W1, hW1, hB1, hk1, hl1⟩ := box1 w #[.slice Aq p.quo.length cq, .slice Ac p.cons.length cc] 68
 obtain ⟨W2, hW2, hB2, hk2, hl2⟩ := box1 W1 #[.int .i64 bc, .int .i64 bb, .int .i64 be, .int .i64 bt] 100
 have hE2 := hB1.trans hB2
 have kp2 := hk1.ext hB2
 have a1 := kp2.cell
 have a2 := kp2.lt
 go_enter Tryz.func28, Tryz.ntmps28
 go_wp2_with fail
 clear hW1 hW2
 refine Calls.mono (G1.out W2 (HRD.out.ext hE2) (hA.ext hE2)) ?_
 rintro e w3 ⟨rfl, hb3⟩
 have hE3 := hE2.trans hb3
 have kp3 := kp2.ext hb3
 have kb3 := hk2.ext hb3
 clear a1 a2
 have a1 := kp3.cell
 have a2 := kp3.lt
 have a3 := kb3.cell
 have a4 := kb3.lt
 go_wp2_with fail
 refine Calls.mono (G2.out w3 (HRD.out.ext hE3)) ?_
 rintro e w4 ⟨rfl, hb4⟩
 have hE4 := hE3.trans hb4
 have kb4 := kb3.ext hb4
 clear a1 a2 a3 a4
 have a3 := kb4.cell
 have a4 := kb4.lt
 go_wp2_with fail
 refine Calls.mono (G3.out w4 (hA.ext hE4)) ?_
 rintro e w5 ⟨u5, rfl, ho5, hb5⟩
 obtain ⟨A5, c5, rfl, hR5⟩ := ho5.form
 have hE5 := hE4.trans hb5
 have kb5 := kb4.ext hb5
 go_wp2_with fail
 refine Calls.mono (G4.out A5 c5 W1.heap.size w5 hR5 kb5) ?_
 rintro e w6 ⟨rfl, hb6⟩
 have hE6 := hE5.trans hb6
 have kb6 := kb5.ext hb6
 clear a3 a4
 have a3 := kb6.cell
 have a4 := kb6.lt
 go_wp2_with fail
 refine Calls.mono (G5.out w6 (hA.ext hE6)) ?_
 rintro e w7 ⟨i, u7, rfl, hbs, ho7, hb7⟩
 go_wp2
 go_ret2
 exact ⟨i, u7, rfl, hbs, ho7.mono hE6.size, hE6.trans hb7⟩
end
end Go.Proofs.YtemkpimngbbpkaaGreat
