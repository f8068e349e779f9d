/- TopMirror, the example: Earliest (the labels' contract as a hypothesis). -/
import Derived.Test.YtmaengcmhopmbaaGreatTaC
import Derived.Test.YtmaengcmhopmbaaGreatTaJO
import Derived.Test.YtmaengcmhopmbaaGreatTaKL
import Derived.Test.YtmaengcmhopmbaaGreatJrV
namespace Go.Proofs.YtmaengcmhopmbaaGreat
set_option linter.unusedVariables false
set_option linter.unusedSimpArgs false
open Go.RowKit Go.Shelf
attribute [local go_sem] Oper.semAt_some

theorem info_hopz : (Tryz.prog.info? 40).map (fun i => (i.zero, i.size, i.bytes)) = some (some (.agg #[.int .i64 0, .int .i64 0, .int .i64 0, .int .i64 0]), 4, 32) := by kernel_rfl
/-- A chain of labels, from the source on. -/
structure LbCh (p : Pln) (q : Req) (L : List Lb) (f : Nat → Nat × Con) : Prop where
  len : 1 ≤ L.length ∧ L.length ≤ 12
  fst : ∀ (h : 0 < L.length), L[0] = ⟨q.src, 0, 1099511627776, q.ready⟩
  src : 0 ≤ q.src ∧ q.src < p.quo.length ∧ p.quo.length ≤ 16
  rdy : 0 ≤ q.ready ∧ q.ready < 1099511627776
  mv : ∀ k (h : k < L.length), MvD p q L[k] (f k).1 (f k).2
  next : ∀ k (h : k + 1 < L.length), (f k).2.dst ≠ q.dst ∧ L[k + 1] = mvL q L[k] (f k).2 ∧ ∀ j (hj : j < L.length), j ≤ k → lbSame L[k + 1] L[j] = false
  last : ∀ k, k + 1 = L.length → (f k).2.dst = q.dst
  ord : ∀ k (h : k + 1 < L.length), ¬ lbC L[k + 1] L[k] < 0
theorem lbSame_comm (x y : Lb) : lbSame x y = lbSame y x := by
  unfold lbSame
  rw [Bool.eq_iff_iff]
  simp only [Bool.and_eq_true, beq_iff_eq]
  exact ⟨fun h => ⟨h.1.symm, h.2.symm⟩, fun h => ⟨h.1.symm, h.2.symm⟩⟩
/-- The label that is asked for when n hops are left. -/
def tgL (q : Req) (L : List Lb) (AT : Int) (n : Nat) : Lb := if h : n < L.length then L[n] else ⟨q.dst, 0, 1099511627776, AT⟩
section
variable {p : Pln} {q : Req} {L : List Lb} {f : Nat → Nat × Con} {AT : Int}
theorem LbCh.fr (C : LbCh p q L f) {k : Nat} (h : k < L.length) : L[k].fr = 0 := by
  cases k with
  | zero => rw [C.fst (by omega)]
  | succ k => rw [(C.next k h).2.1]; rfl
theorem LbCh.ne (C : LbCh p q L f) {j k : Nat} (hjk : j < k) (h : k < L.length) : lbSame L[j] L[k] = false := by
  obtain ⟨k', rfl⟩ : ∃ k', k = k' + 1 := ⟨k - 1, by omega⟩
  rw [lbSame_comm]
  exact (C.next k' h).2.2 j (by omega) (by omega)
theorem LbCh.no (C : LbCh p q L f) {k n : Nat} (hn : n < L.length) (hk : k < n) : lbSame (mvL q (L[k]'(by omega)) (f k).2) (tgL q L AT (n + 1)) = false := by
  have h1 := C.next k (by omega)
  rw [← h1.2.1]
  unfold tgL
  split
  · rename_i h2
    exact C.ne (by omega) h2
  · rw [h1.2.1]
    unfold lbSame mvL
    have := h1.1
    simp [this]
theorem LbCh.yes (C : LbCh p q L f) (hAT : ∀ k (h : k + 1 = L.length), (L[k]'(by omega)).arr q (f k).2 = AT) {n : Nat} (hn : n < L.length) : lbSame (mvL q L[n] (f n).2) (tgL q L AT (n + 1)) = true ∧ L[n].arr q (f n).2 = (tgL q L AT (n + 1)).tm := by
  unfold tgL
  split
  · rename_i h2
    have h1 := C.next n h2
    rw [h1.2.1]
    exact ⟨by simp [lbSame], rfl⟩
  · have h1 := C.last n (by omega)
    exact ⟨by simp [lbSame, mvL, h1], hAT n (by omega)⟩
theorem LbCh.start (C : LbCh p q L f) {n : Nat} (hn : n < L.length) (h0 : 0 < n) : (L[n].node == q.src) = false := by
  have h1 := C.ne (j := 0) h0 hn
  rw [C.fst (by omega)] at h1
  unfold lbSame at h1
  have h2 := C.fr hn
  rw [h2] at h1
  simp only [beq_self_eq_true, Bool.and_true] at h1
  rw [beq_eq_false_iff_ne] at h1 ⊢
  exact fun e => h1 e.symm
end

theorem owns_fars {α : Type} {E : Elt α} {base : Nat} {e : TypeId} {v : Value} {l : List α} {g : Nat} {t : TypeId} : ∀ (vs : List Value) {w : World} {cs : Array Value} (_ : Owns E w base e v l) (_ : Blk w g t cs) (_ : t ≠ e) (o : Nat), Owns E (w.setCells g o vs) base e v l
  | [], _, _, h, _, _, _ => h
  | u :: vs, _, _, h, hk, hn, o => owns_fars vs (h.setZ hk hn o u) (hk.set_ o u) hn (o + 1)

set_option maxRecDepth 100000 in
set_option maxHeartbeats 16000000 in
theorem earliest_ch (Aq : Option Addr) (cq : Nat) (Ac : Option Addr) (cc : Nat) (p : Pln) (q : Req) (L : List Lb) (f : Nat → Nat × Con) (HS : List Hp) (AT : Int) (w : World) (h : PlnRd w Aq cq Ac cc p) (h0 : p.chk = 0) (hf : fineR p q = true) (hse : ∀ c ∈ p.cons, c.st < c.en ∧ c.arg q.size = 0) (hqu : ∀ n : Int, 0 ≤ n → n < p.quo.length → q.size ≤ gi p.quo n ∧ gi p.quo n ≤ 1099511627776) (hsz : 1 ≤ q.size ∧ q.size ≤ 65536) (hn16 : p.quo.length ≤ 16 ∧ p.cons.length ≤ 64)
    (C : LbCh p q L f) (hAT : ∀ k (h : k + 1 = L.length), (L[k]'(by omega)).arr q (f k).2 = AT) (hHS : HS.length = L.length) (hHk : ∀ k (h : k < L.length), HS[k]'(by omega) = hopC q L[k] (f k).1 (f k).2)
    (hlab : ∀ base B w', PlnRd w' Aq cq Ac cc p → GAt Aq cq Ac cc p q base w' B → Calls Tryz.prog 65 #[.pointer (some ⟨B, 0, none⟩)] w' fun e w'' => ∃ u, e = .returned u ∧ Owns ELb w'' w'.heap.size 134 u L ∧ Ext w' w'') :
    Calls Tryz.prog 34 #[.agg #[.slice Aq p.quo.length cq, .slice Ac p.cons.length cc, .slice none 0 0, .slice none 0 0], q.val] w fun e w' => ∃ A c, e = .returned (.tuple #[.slice A HS.length c, .int .i64 0]) ∧ Owns EHp w' w.heap.size 40 (.slice A HS.length c) HS ∧ Ext w w' := by
  obtain ⟨i0, hi0, hz0, hz1, hz2⟩ := info_parts info_hopz
  obtain ⟨W1, hW1, hB1, hk1, hkq, hl1, hlq⟩ := box2 w #[.slice Aq p.quo.length cq, .slice Ac p.cons.length cc, .slice none 0 0, .slice none 0 0] q.cells 82 27
  simp only [Req.cells] at hW1 hkq
  have hbd := build_any Aq cq Ac cc p q W1 (h.ext hB1) h0 hf hse hqu hsz hn16
  have hrd := h.ext hB1
  have hL12 := C.len
  have r0 := hk1.cell
  have r1 := hkq.cell
  have r2 := hk1.lt
  have r3 := hkq.lt
  unfold Req.val at hbd ⊢
  have H0 := Lib.hid h0
  have Hqu := Lib.hid hqu
  have Hse := Lib.hid hse
  clear h0 hf hse hqu
  go_enter Tryz.func34, Tryz.ntmps34
  go_wp2_with fail
  clear hW1 r0 r1 r2 r3
  refine hbd.mono ?_
  clear hbd
  rintro e w2 ⟨B, rfl, hBl, hg, hb2⟩
  obtain ⟨W3, hW3, hB3, hk3, hl3⟩ := box1 w2 #[.pointer (some ⟨B, 0, none⟩)] 127
  have hx3 := hb2.trans hB3
  have r0 := hk3.cell
  have r1 := hk3.lt
  go_wp2_with fail
  clear hW3 r0 r1
  refine (hlab _ B W3 (hrd.ext hx3) (hg.ext hB3)).mono ?_
  clear hlab
  rintro e w4 ⟨u, rfl, hu4, hb4⟩
  obtain ⟨Al, cl, rfl, hRl⟩ := hu4.form
  have hx4 := hx3.trans hb4
  obtain ⟨W5, hW5, hB5, hk5, hl5⟩ := box1 w4 #[.slice Al L.length cl] 50
  have hx5 := hx4.trans hB5
  have kg5 := (hk3.ext hb4).ext hB5
  have hg5 := ((hg.ext hB3).ext hb4).ext hB5
  have har := arrival_any Aq cq Ac cc p q W1.heap.size B Al cl L f (fun k => if k < L.length then (0, false) else (AT, true)) W5 (hrd.ext hx5) hg5 (hRl.ext hB5) (by omega) C.mv (if_pos (by omega)) (fun k hk => by
    rw [if_pos hk]
    unfold aStep
    by_cases h1 : k + 1 < L.length
    · rw [if_pos h1, if_neg (fun hh => (C.next k h1).1 hh.1)]
    · rw [if_neg h1, if_pos ⟨C.last k (by omega), .inl rfl⟩, hAT k (by omega)])
  rw [if_neg (Nat.lt_irrefl _)] at har
  have r0 := kg5.cell
  have r1 := kg5.lt
  have r2 := hk5.cell
  have r3 := hk5.lt
  go_wp2_with fail
  clear hW5 r0 r1 r2 r3
  refine har.mono ?_
  clear har
  rintro e w6 ⟨rfl, hb6⟩
  have hx6 := hx5.trans hb6
  have r0 := (hkq.ext hx6).cell
  have r1 := (hkq.ext hx6).lt
  obtain ⟨W7, hW7, hB7, hk7, hl7⟩ := box1 w6 #[.int .i64 q.dst, .int .i64 0, .int .i64 1099511627776, .int .i64 AT] 134
  have hx7 := hx6.trans hB7
  go_wp2_with fail
  clear hW7 r0 r1
  go_loopg [12, 13] L.length (fun n u12 u13 wr => ∃ tb, 1 ≤ n ∧ n ≤ L.length ∧ u13 = .pointer (some ⟨tb, 0, none⟩) ∧ w6.heap.size ≤ tb ∧ Blk wr tb 134 #[.int .i64 (tgL q L AT n).node, .int .i64 (tgL q L AT n).fr, .int .i64 (tgL q L AT n).til, .int .i64 (tgL q L AT n).tm] ∧ Owns EHp wr w6.heap.size 40 u12 (HS.drop n).reverse ∧ Ext w6 wr)
  case atStart => exact ⟨w6.heap.size, by omega, Nat.le_refl _, rfl, Nat.le_refl _, by unfold tgL; rw [dif_neg (by omega)]; exact hk7, by rw [List.drop_eq_nil_of_le (by omega)]; exact Owns.none_ _ _, hB7⟩
  case round =>
    obtain ⟨tb, hn1, hnL, rfl, htb, kt, ho, hx⟩ := hrel
    obtain ⟨k, rfl⟩ : ∃ k, gk = k + 1 := ⟨gk - 1, by omega⟩
    have hkL : k < L.length := by omega
    have hE := hx6.trans hx
    have hg8 := (hg5.ext hb6).ext hx
    have kl8 := (hk5.ext hb6).ext hx
    have kg8 := (kg5.ext hb6).ext hx
    have hbf := before_any Aq cq Ac cc p q W1.heap.size B w4.heap.size w2.heap.size Al cl L f (tgL q L AT (k + 1)) k wr (hrd.ext hE) hg8 (((hRl.ext hB5).ext hb6).ext hx) (by omega) kl8 kg8 C.mv hkL (fun j hj hjk => C.no hkL hjk) (C.yes hAT hkL)
    have Hst := Lib.hid (fun h0 => C.start hkL h0)
    have Hf0 := Lib.hid (show k = 0 → L[k] = ⟨q.src, 0, 1099511627776, q.ready⟩ from fun e => by subst e; exact C.fst _)
    have Htg := Lib.hid (show tgL q L AT k = L[k] by unfold tgL; rw [dif_pos hkL])
    have Hdr := Lib.hid (show (HS.drop k).reverse = (HS.drop (k + 1)).reverse ++ [hopC q L[k] (f k).1 (f k).2] by rw [List.drop_eq_getElem_cons (by omega), List.reverse_cons, hHk k hkL])
    generalize L[k] = x at *
    generalize hopC q x (f k).1 (f k).2 = hp at *
    generalize tgL q L AT (k + 1) = y at *
    obtain ⟨Ao, co, rfl, hRo⟩ := ho.form
    have hol : (HS.drop (k + 1)).reverse.length ≤ 12 := by rw [List.length_reverse, List.length_drop]; omega
    generalize (HS.drop (k + 1)).reverse = out at *
    have r0 := kt.cell
    have r1 := kt.lt
    go_wp2_with fail
    clear r0 r1
    refine hbf.mono ?_
    clear hbf
    rintro e w8 ⟨rfl, hb8⟩
    have hx8 := hx.trans hb8
    obtain ⟨W9, hW9, hB9, ka, kb, hla, hlb⟩ := box2 w8 #[.int .i64 0, .int .i64 0, .int .i64 0, .int .i64 0] #[.int .i64 0, .int .i64 0, .int .i64 0, .int .i64 0] 134 40
    obtain ⟨W10, hW10⟩ : ∃ W10, (W9.setCells w8.heap.size 0 [.int .i64 x.node, .int .i64 x.fr, .int .i64 x.til, .int .i64 x.tm]).setCells (w8.heap.size + 1) 0 [.int .i64 hp.con, .int .i64 hp.beg, .int .i64 hp.en, .int .i64 hp.arr] = W10 := ⟨_, rfl⟩
    have ka10 : Blk W10 w8.heap.size 134 #[.int .i64 x.node, .int .i64 x.fr, .int .i64 x.til, .int .i64 x.tm] := by rw [← hW10]; exact blk_fars _ (ka.setCells_ [.int .i64 x.node, .int .i64 x.fr, .int .i64 x.til, .int .i64 x.tm] 0) (by omega) 0
    have kb10 : Blk W10 (w8.heap.size + 1) 40 #[.int .i64 hp.con, .int .i64 hp.beg, .int .i64 hp.en, .int .i64 hp.arr] := by rw [← hW10]; exact (blk_fars _ kb (by omega) 0).setCells_ [.int .i64 hp.con, .int .i64 hp.beg, .int .i64 hp.en, .int .i64 hp.arr] 0
    have hE10 : Ext w8 W10 := by rw [← hW10]; exact ext_setCells (ext_setCells hB9 (Nat.le_refl _) 0 _) (by omega) 0 _
    simp only [World.setCells, Nat.zero_add, Nat.reduceAdd] at hW10
    have r0 := ka.cell
    have r1 := ka.lt
    have r2 := ka.frozen
    have r3 := kb.cell
    have r4 := kb.lt
    have r5 := kb.frozen
    have hx10 := hx8.trans hE10
    have kt10 := (kt.ext hb8).ext hE10
    have ho10 := (ho.ext hb8).ext hE10
    have q0 := kb10.cell
    have q1 := kb10.lt
    have zs := hx10.size
    have zs1 := (hx6.trans hx10).size
    by_cases hk0 : k = 0
    · have hx0 := Hf0.out hk0
      have e1 : (x.node == q.src) = true := by rw [hx0]; simp
      have e2 : (x.tm == q.ready) = true := by rw [hx0]; simp
      have e3 : decide ((1000 : Int) < (out.length : Int) + 1) = false := decide_eq_false (by omega)
      have Hk0 := Lib.hid hk0
      clear hx0 hk0
      go_wp2_with (at_builtin; refine wpList_push rfl (.tmp 49) (.tmp 51) _ (by rfl) w6.heap.size 40 i0 _ 32 Tryz.underlying34 hi0 hz0 hz1 hz2 (by rfl) (.slice Ao out.length co) (by rfl) (ho10.ext ((Ext.refl _).alloc _)) W10.heap.size hp (by rfl) (Blk.new W10 _ _) (by simp only [maxLen]; omega) (by omega) (Nat.le_trans zs (by simp)) ?_; intro v12 w12 hv12 hg12 hat12; have kt12 := Blk.kepttZ (kt10.ext ((Ext.refl _).alloc _)) (ho10.ext ((Ext.refl _).alloc _)) (by decide) hg12; have ka12 := Blk.kepttZ (ka10.ext ((Ext.refl _).alloc _)) (ho10.ext ((Ext.refl _).alloc _)) (by decide) hg12; have hE12 := ext_grown (hx10.alloc _) (ho10.ext ((Ext.refl _).alloc _)) (Nat.le_refl _) hg12; obtain ⟨A12, d12, rfl, hR12⟩ := hv12.form; simp only [List.length_append, List.length_cons, List.length_nil, Nat.zero_add] at hv12 ⊢; obtain ⟨W13, hW13, kt13, ka13, hv13, hE13⟩ : ∃ W13, w12.setCells tb 0 [.int .i64 x.node, .int .i64 x.fr, .int .i64 x.til, .int .i64 x.tm] = W13 ∧ Blk W13 tb 134 #[.int .i64 x.node, .int .i64 x.fr, .int .i64 x.til, .int .i64 x.tm] ∧ Blk W13 w8.heap.size 134 #[.int .i64 x.node, .int .i64 x.fr, .int .i64 x.til, .int .i64 x.tm] ∧ Owns EHp W13 w6.heap.size 40 (.slice A12 (out.length + 1) d12) (out ++ [hp]) ∧ Ext w6 W13 := ⟨_, rfl, kt12.setCells_ [.int .i64 x.node, .int .i64 x.fr, .int .i64 x.til, .int .i64 x.tm] 0, blk_fars _ ka12 (by have := kt.lt; have := hb8.size; omega) 0, owns_fars _ hv12 kt12 (by decide) 0, ext_setCells hE12 htb 0 _⟩; simp only [World.setCells, Nat.zero_add, Nat.reduceAdd] at hW13; have kq13 := hkq.ext (hx6.trans hE13); have s0 := kt12.cell; have s1 := kt12.lt; have s2 := kt12.frozen; have s3 := ka12.cell; have s4 := ka12.lt; have s5 := ka13.cell; have s6 := ka13.lt; have s7 := kq13.cell; have s8 := kq13.lt; have s9 := kt13.cell; have s10 := kt13.lt)
      refine (reverse_any A12 (out.length + 1) d12 (out ++ [hp]) w6.heap.size W13 hv13 (by simp; omega)).mono ?_
      rintro e w14 ⟨⟨v, rfl⟩, hR14, w15, hgr, rfl⟩
      go_wp2
      go_ret2
      have hE14 := ext_grown (hx6.trans hE13) hv13 (hx6.size) hgr
      have hd0 := Hdr.out
      rw [Hk0.out, List.drop_zero] at hd0
      have hrv : (out ++ [hp]).reverse = HS := by rw [← hd0, List.reverse_reverse]
      have hlen : out.length + 1 = HS.length := by rw [← hrv]; simp
      rw [hrv] at hR14
      exact ⟨A12, d12, by rw [← hlen]; rfl, by rw [← hlen]; exact hR14.mono (hB1.trans hx6).size, hB1.trans hE14⟩
    · have e1 := Hst.out (by omega)
      have Hk0 := Lib.hid hk0
      clear hk0
      go_wp2_with (at_builtin; refine wpList_push rfl (.tmp 49) (.tmp 51) _ (by rfl) w6.heap.size 40 i0 _ 32 Tryz.underlying34 hi0 hz0 hz1 hz2 (by rfl) (.slice Ao out.length co) (by rfl) (ho10.ext ((Ext.refl _).alloc _)) W10.heap.size hp (by rfl) (Blk.new W10 _ _) (by simp only [maxLen]; omega) (by omega) (Nat.le_trans zs (by simp)) ?_; intro v12 w12 hv12 hg12 hat12; have kt12 := Blk.kepttZ (kt10.ext ((Ext.refl _).alloc _)) (ho10.ext ((Ext.refl _).alloc _)) (by decide) hg12; have ka12 := Blk.kepttZ (ka10.ext ((Ext.refl _).alloc _)) (ho10.ext ((Ext.refl _).alloc _)) (by decide) hg12; have hE12 := ext_grown (hx10.alloc _) (ho10.ext ((Ext.refl _).alloc _)) (Nat.le_refl _) hg12; obtain ⟨A12, d12, rfl, hR12⟩ := hv12.form; simp only [List.length_append, List.length_cons, List.length_nil, Nat.zero_add] at hv12 ⊢; obtain ⟨W13, hW13, kt13, ka13, hv13, hE13⟩ : ∃ W13, w12.setCells tb 0 [.int .i64 x.node, .int .i64 x.fr, .int .i64 x.til, .int .i64 x.tm] = W13 ∧ Blk W13 tb 134 #[.int .i64 x.node, .int .i64 x.fr, .int .i64 x.til, .int .i64 x.tm] ∧ Blk W13 w8.heap.size 134 #[.int .i64 x.node, .int .i64 x.fr, .int .i64 x.til, .int .i64 x.tm] ∧ Owns EHp W13 w6.heap.size 40 (.slice A12 (out.length + 1) d12) (out ++ [hp]) ∧ Ext w6 W13 := ⟨_, rfl, kt12.setCells_ [.int .i64 x.node, .int .i64 x.fr, .int .i64 x.til, .int .i64 x.tm] 0, blk_fars _ ka12 (by have := kt.lt; have := hb8.size; omega) 0, owns_fars _ hv12 kt12 (by decide) 0, ext_setCells hE12 htb 0 _⟩; simp only [World.setCells, Nat.zero_add, Nat.reduceAdd] at hW13; have kq13 := hkq.ext (hx6.trans hE13); have s0 := kt12.cell; have s1 := kt12.lt; have s2 := kt12.frozen; have s3 := ka12.cell; have s4 := ka12.lt; have s5 := ka13.cell; have s6 := ka13.lt; have s7 := kq13.cell; have s8 := kq13.lt; have s9 := kt13.cell; have s10 := kt13.lt)
      go_roundg k
      case measure => omega
      case rel => exact ⟨W13.heap.size, by have := Hk0.out; omega, by omega, rfl, hE13.size, by rw [Htg.out]; exact Blk.new _ _ _, by rw [Hdr.out]; simpa using hv13.ext ((Ext.refl _).alloc _), hE13.alloc _⟩

end Go.Proofs.YtmaengcmhopmbaaGreat
