/- Update: slices.AppendSeq and slices.Collect at the changes that are not known; Missing. · Three nodes' play: one gets what it is missing from another one. · Three nodes' play: three histories in memory. · Three nodes' play: top35Play. · Lists of changes compared, searched; three histories cloned. -/
import Derived.Test.YtemkpimngbbpkaaGreatQc06
import Derived.Test.YtemkpimngbbpkaaGreatQc20
import Derived.Test.YtemkpimngbbpkaaGreatQc28
import Derived.Test.YtemkpimngbbpkaaGreatQc29
import Derived.Test.YtemkpimngbbpkaaGreatQc32
import Derived.Test.YtemkpimngbbpkaaGreatQc34
import Derived.Test.YtemkpimngbbpkaaGreatQc38
namespace Go.Proofs.YtemkpimngbbpkaaGreat
set_option linter.unusedVariables false
set_option linter.unusedSimpArgs false
open Go.RowKit Go.Shelf
attribute [local go_sem] Oper.semAt_some
def ASr (bo b1 : Nat) (W0 : World) (pre : List Chg) (W : World) : Prop := ∃ u, Owns EChg W b1 63 u pre /\ Blk W bo 54 #[u] /\ Ext W0 W /\ b1 <= W.heap.size
theorem ASr.ext {bo b1 : Nat} {W0 : World} {pre : List Chg} {W W' : World} (h : ASr bo b1 W0 pre W) (hb : Ext W W') : ASr bo b1 W0 pre W' := by
 obtain ⟨u, h1, h2, h3, h4⟩ := h
 exact ⟨u, h1.ext hb, h2.ext hb, h3.trans hb, Nat.le_trans h4 hb.size⟩
theorem asr_own {bo b1 B : Nat} {W0 : World} (hB : W0.heap.size <= B) : OwnFrom B (ASr bo b1 W0) := by
 intro pre X Y row hs hg hr
 obtain ⟨u, h1, h2, h3, h4⟩ := hs
 exact ⟨u, h1.keptc hg (fun r e => (hr r e).2), h2.keptc hg (fun r e => (hr r e).2), h3.keptb hg (fun r e => Nat.le_trans hB (hr r e).1), Nat.le_trans h4 hg.size⟩
theorem asr_put {bo b1 : Nat} {W0 W w6 : World} {pre : List Chg} {x : Chg} {u v6 : Value} {c : Obj} (h1 : Owns EChg W b1 63 u pre) (h2 : Blk W bo 54 #[u]) (h3 : Ext W0 W) (h4 : b1 <= W.heap.size) (hbo : bo < b1) (hW0 : W0.heap.size <= bo)
 (hv6 : Owns EChg w6 b1 63 v6 (pre ++ [x])) (hg6 : (W.alloc c).grownBy w6 u.ownBlock) :
 Blk w6 bo 54 #[u] /\ KeepsFrom b1 W (w6.setCell ⟨bo, 0, none⟩ v6) /\ KpP b1 (fun b => b = bo) W (w6.setCell ⟨bo, 0, none⟩ v6) /\ ASr bo b1 W0 (pre ++ [x]) (w6.setCell ⟨bo, 0, none⟩ v6) := by
 have hx := (Ext.refl W).alloc c
 have ho := h1.ext hx
 have ko6 := Blk.kepttZ (h2.ext hx) ho (by decide) hg6
 have hE6 := ext_grown (h3.trans hx) ho (by omega) hg6
 have hk6 := hx.keeps.trans (keeps_ownL ho hg6)
 have hkk := hk6.trans (KeepsOthers.setCell w6 ⟨bo, 0, none⟩ v6)
 have hgs := hg6.size
 have hxs := hx.size
 refine ⟨ko6, hkk.from _, ?_, v6, ?_, ko6.set0 _, hE6.setCell hW0 _, Nat.le_trans h4 hkk.size⟩
 ·refine KpP.setCell (S := fun b => b = bo) (KpP.trans (KpP.of_ext h4 hx) ⟨hg6.os, hg6.tape, hg6.output, hgs, fun k hk hs => hg6.block k (by omega) (fun e => ?_)⟩) (.inl rfl) _ _
  have := (ho.block e.symm).1
  omega
 ·exact hv6.setZ ko6 (by decide) 0 _
set_option maxRecDepth 100000 in
set_option maxHeartbeats 16000000 in
theorem appSeq_any (Bh Bv : Nat) (n : Int) (A : Option Addr) (cc : Nat) (l : List Chg) (B : Option Addr) (cv : Nat) (v : List Int) (w : World) (hA : Rd EChg w A l) (hB : Rd EInt w B v) (hl : l.length <= 1000) (hv : v.length <= 16) (ho : ∀ x ∈ l, 0 <= x.org /\ x.org < v.length)
 (kh : Blk w Bh 56 #[.int .i64 n, .slice A l.length cc]) (kv : Blk w Bv 162 #[.slice B v.length cv]) :
 Calls Tryz.prog 234 #[.slice none 0 0, .func (.func 235) #[] #[.pointer (some ⟨Bh, 0, none⟩), .pointer (some ⟨Bv, 0, none⟩)]] w fun e w' =>
  ∃ u, e = .returned u /\ Owns EChg w' w.heap.size 63 u (missL l v) /\ Ext w w' := by
 obtain ⟨i0, hi0, hz0, hz1, hz2⟩ := info_parts info_chg
 obtain ⟨W1, hW1, hB1, hk1, hl1⟩ := box1 w #[.slice none 0 0] 54
 have z1 := kh.lt
 have z2 := kv.lt
 have z3 := hB1.size
 have hs1 : W1.heap.size = w.heap.size + 1 := by rw [<- hW1]; simp
 refine (callsIn_wide (n := 5)).1 ?_
 refine callsIn_of_wp_marks Tryz.func234 rfl trivial ?_ rfl
 refine wpIn_wide.2 ?_
 refine Code.wp_mono NoPanic.imp ?_
 simp only [Tryz.ntmps234, List.size_toArray, List.length_cons, List.length_nil, Nat.reduceAdd, Nat.reduceSub, Array.replicate_succ, Array.replicate_zero, List.push_toArray, List.append_toArray, List.nil_append, List.cons_append]
 go_wp2_with fail
 clear hW1
 refine (wpIn_wide (n := 5)).1 ?_
 refine wpIn_rangeFunc_ownH rfl (by omega) (gf := 235) (lb := #[.pointer (some ⟨Bh, 0, none⟩), .pointer (some ⟨Bv, 0, none⟩)]) rfl trivial (enters_of Tryz.func235 (by kernel_rfl) rfl)
  (unk_stops Bh Bv W1.heap.size (fun b => b = w.heap.size) n A cc l B cv v w W1 hA hB hl hv ho hB1 (by omega) (fun k hk => by omega) (Nat.le_refl _) (kh.ext hB1) (kv.ext hB1) ⟨by omega, by omega⟩ ⟨by omega, by omega⟩)
  KpP.trans (fun W l o o' hl _ _ _ => KpP.put W l o' hl) (Below.refl _ _) (fun _ => rfl)
  (ASr w.heap.size W1.heap.size w) (fun _ _ _ => False) (asr_own (by omega)) (fun _ _ _ _ _ hs _ _ => hs)
  ⟨.slice none 0 0, Owns.none_ _ _, hk1, hB1, Nat.le_refl _⟩
  (fun x a' W => ∃ Bx, W1.heap.size <= Bx /\ Blk W Bx 63 x.arr /\ a' = { tmps := #[.slice none 0 0, .func (.func 235) #[] #[.pointer (some ⟨Bh, 0, none⟩), .pointer (some ⟨Bv, 0, none⟩)], .pointer (some ⟨w.heap.size, 0, none⟩), undef, .slice none 0 0, .pointer (some ⟨Bx, 0, none⟩), .func (.func 235) #[] #[.pointer (some ⟨Bh, 0, none⟩), .pointer (some ⟨Bv, 0, none⟩)], .agg x.arr, undef, undef, undef, undef, undef], defers := [] })
  (fun x a' s X Y row hs hg hr => by obtain ⟨Bx, z1, z2, z3⟩ := hs; exact ⟨Bx, z1, z2.keptc hg (fun r e => (hr r e).2), z3⟩) ?assign ?body ?done ?stop
 case assign =>
  rintro li pre x W K hi hK
  have hBW : W1.heap.size <= W.heap.size := by obtain ⟨_, _, _, _, z⟩ := hi; exact z
  simp only [chV]
  obtain ⟨xo, xc, xs, xk, ⟨xsrc, xdst, xst, xen, xrate, xrng, xloss⟩⟩ := x
  unfold Chg.arr at hK ⊢
  dsimp only at hK ⊢
  gi_wp2
  exact hK _ _ ((KeepsOthers.alloc _ _).from _) (KpP.of_ext hBW ((Ext.refl W).alloc _)) (hi.ext ((Ext.refl W).alloc _)) ⟨W.heap.size, hBW, Blk.new _ _ _, rfl⟩
 case body =>
  rintro li pre x a' W hl _ ⟨u, h1, h2, h3, h4⟩ ⟨Bx, b1, kx, rfl⟩ hlen
  obtain ⟨A0, c0, rfl, hR⟩ := h1.form
  have PUT0 : Hid (∀ v6 w6 c1, Owns EChg w6 W1.heap.size 63 v6 (pre ++ [x]) -> (W.alloc c1).grownBy w6 (Value.slice A0 pre.length c0).ownBlock -> _) := Lib.hid (fun v6 w6 c1 hv hg => asr_put (bo := w.heap.size) (b1 := W1.heap.size) (W0 := w) (W := W) (w6 := w6) (pre := pre) (x := x) (u := .slice A0 pre.length c0) (v6 := v6) (c := c1) h1 h2 h3 h4 (by omega) (Nat.le_refl _) hv hg)
  have a1 := h2.cell
  have a2 := h2.lt
  have a3 := kx.cell
  have a4 := kx.lt
  obtain ⟨xo, xc, xs, xk, ⟨xsrc, xdst, xst, xen, xrate, xrng, xloss⟩⟩ := x
  unfold Chg.arr at a3 ⊢
  dsimp only at a3 ⊢
  gi_wp2_with (gi_at_builtin; refine wpListIn_pushL rfl (.tmp 8) (.tmp 10) _ (by rfl) W1.heap.size 63 i0 _ 88 Tryz.underlying54 hi0 hz0 hz1 hz2 (by rfl) (.slice A0 pre.length c0) (by rfl) (h1.ext ((Ext.refl _).alloc _)) W.heap.size ⟨xo, xc, xs, xk, ⟨xsrc, xdst, xst, xen, xrate, xrng, xloss⟩⟩ (by rfl) (Blk.new W _ _) (by simp only [maxLen]; omega) (by omega) (by simp; omega) ?_; intro v6 w6 hv6 hg6 hat6; have PUT := PUT0.out _ _ _ hv6 hg6; obtain ⟨A7, d7, rfl, hR7⟩ := hv6.form; have m1 := PUT.1.cell; have m2 := PUT.1.lt; have m3 := PUT.1.frozen; simp only [List.length_append, List.length_cons, List.length_nil, Nat.zero_add] at hv6 PUT ⊢; have FIN := Lib.hid PUT.2; clear PUT)
  exact FIN.out
 case stop =>
  rintro D c pre W _ _ h _
  exact h.elim
 case done =>
  rintro D xs W hDD rfl ⟨u, h1, h2, h3, h4⟩ hK
  have hd2 := (DSx.nil W1.heap.size w.heap.size W).cons hDD (by have := h3.size; omega) hK
  clear hK
  obtain ⟨A9, c9, rfl, hR9⟩ := h1.form
  have a1 := h2.cell
  have a2 := h2.lt
  go_wp2_with fail
  show LeavesInM _ _ _ _ _ _ _ .returning _
  refine hd2.leaves ?_
  intro w' hw'
  have hfin := hw' (fun W => Ext w W /\ Owns EChg W w.heap.size 63 (.slice A9 (missL l v).length c9) (missL l v)) (fun s X Y row hs hg hr => ⟨hs.1.keptb hg (fun r e => (hr r e).1), hs.2.keptc hg (fun r e => (hr r e).2)⟩) ⟨h3, h1.mono (by omega)⟩
  refine ⟨_, results_tmp rfl _ _ _, _, rfl, ?_, hfin.1⟩
  exact hfin.2
set_option maxHeartbeats 1000000 in
theorem collect_any (Bh Bv : Nat) (n : Int) (A : Option Addr) (cc : Nat) (l : List Chg) (B : Option Addr) (cv : Nat) (v : List Int) (w : World) (hA : Rd EChg w A l) (hB : Rd EInt w B v) (hl : l.length <= 1000) (hv : v.length <= 16) (ho : ∀ x ∈ l, 0 <= x.org /\ x.org < v.length)
 (kh : Blk w Bh 56 #[.int .i64 n, .slice A l.length cc]) (kv : Blk w Bv 162 #[.slice B v.length cv]) :
 Calls Tryz.prog 155 #[.func (.func 235) #[] #[.pointer (some ⟨Bh, 0, none⟩), .pointer (some ⟨Bv, 0, none⟩)]] w fun e w' =>
  ∃ u, e = .returned u /\ Owns EChg w' w.heap.size 63 u (missL l v) /\ Ext w w' := by
 go_enter Tryz.func155, Tryz.ntmps155
 go_wp2_with fail
 refine (appSeq_any Bh Bv n A cc l B cv v w hA hB hl hv ho kh kv).mono ?_
 rintro e w1 ⟨u, rfl, h1, h2⟩
 go_wp2
 go_ret
 exact ⟨u, rfl, h1, h2⟩
set_option maxRecDepth 100000 in
set_option maxHeartbeats 4000000 in
theorem uMissing_any (n : Nat) (A : Option Addr) (cc : Nat) (l : List Chg) (B : Option Addr) (cv : Nat) (v : List Int) (w : World) (hA : Rd EChg w A l) (hB : Rd EInt w B v) (h0 : hChk n l = 0) (hn : v.length = n) (hv : ∀ x ∈ v, 0 <= x) (ho : ∀ x ∈ l, 0 <= x.org /\ x.org < n) :
 Calls Tryz.prog 74 #[.agg #[.int .i64 n, .slice A l.length cc], .slice B n cv] w fun e w' => ∃ u, e = .returned (.tuple #[u, .int .i64 0]) /\ Owns EChg w' w.heap.size 63 u (missL l v) /\ Ext w w' := by
 obtain ⟨⟨n1, n2⟩, hl, -⟩ := hChk_ok h0
 have g0 := fun w h => hCheck_any n A cc l w h
 rw [h0] at g0
 have g1 := fun w h => containsV_none B cv v w h (by omega) hv
 have g2 := fun w => unknown_any n A cc l B v.length cv w
 rw [hn] at g1 g2
 have g3 := fun Bh Bv w ha hb kh kv => collect_any Bh Bv n A cc l B cv v w ha hb hl (by omega) (by rw [hn]; exact ho) kh kv
 rw [hn] at g3
 have G3 := Lib.hid g3
 clear g3 hv ho h0 hn
 obtain ⟨W1, hW1, hB1, hk1, hl1⟩ := box1 w #[.int .i64 n, .slice A l.length cc] 56
 have e1 := hk1.cell
 have e2 := hk1.lt
 go_enter Tryz.func74, Tryz.ntmps74
 go_wp2_with fail
 clear hW1
 refine (g0 _ (hA.ext hB1)).mono ?_
 rintro e w2 ⟨rfl, hb2⟩
 have hE2 := hB1.trans hb2
 have kh2 := hk1.ext hb2
 clear e1 e2
 have e1 := kh2.cell
 have e2 := kh2.lt
 go_wp2_with fail
 refine (g1 _ (hB.ext hE2)).mono ?_
 rintro e w3 ⟨rfl, rfl⟩
 go_wp2_with fail
 refine (g2 _).mono ?_
 rintro e w4 ⟨g, p, rfl, z1, z2, kg, kp, hb4⟩
 have hE4 := hE2.trans hb4
 go_wp2_with fail
 refine (G3.out g p _ (hA.ext hE4) (hB.ext hE4) kg kp).mono ?_
 rintro e w5 ⟨u, rfl, ho5, hb5⟩
 go_wp2
 go_ret2
 exact ⟨u, rfl, ho5.mono hE4.size, hE4.trans hb5⟩
end Go.Proofs.YtemkpimngbbpkaaGreat
namespace Go.Proofs.YtemkpimngbbpkaaGreat
set_option linter.unusedVariables false
set_option linter.unusedSimpArgs false
open Go.RowKit Go.Shelf
attribute [local go_sem] Oper.semAt_some
set_option maxRecDepth 100000 in
set_option maxHeartbeats 8000000 in
theorem get_any {t : Nat} {L : Nat -> List Chg} {K : Nat -> Nat -> Nat} (h : PlayS t L K) (ht : t <= 1000) {n m : Nat} (hn : n < 3) (hm : m < 3) (A : Option Addr) (ca : Nat) (B : Option Addr) (cb : Nat) (w : World) (hA : Rd EChg w A (hist L (K n))) (hB : Rd EChg w B (hist L (K m))) :
 Calls Tryz.prog 21 #[.agg #[.int .i64 4, .slice A (hist L (K n)).length ca], .agg #[.int .i64 4, .slice B (hist L (K m)).length cb]] w fun e w' => ∃ u, e = .returned (.tuple #[.agg #[.int .i64 4, u], .bool true]) /\ Owns EChg w' w.heap.size 63 u (hist L (getK K n m n)) /\ Ext w w' := by
 have kn := fun o => h.le n o hn
 have km := fun o => h.le m o hm
 have l1 : (hist L (K n)).length <= 1000 := Nat.le_trans (h.hl kn) ht
 have l2 : (hist L (K m)).length <= 1000 := Nat.le_trans (h.hl km) ht
 have l3 : (hist L (kmax (K n) (K m))).length <= 1000 := Nat.le_trans (h.hl (k := kmax (K n) (K m)) (fun o => by have := kn o; have := km o; unfold kmax; omega)) ht
 have e4 : ((4 : Nat) : Int) = 4 := rfl
 have c1 := hist_chk h.log (K n) l1
 have c2 := hist_chk h.log (K m) l2
 have g1 := fun w hx => uKnown_any 4 A ca (hist L (K n)) w hx (by rw [e4]; exact c1)
 have g2 := fun B' cv w ha hb => uMissing_any 4 B cb (hist L (K m)) B' cv [(K n 0 : Int), (K n 1 : Int), (K n 2 : Int), 0] w ha hb (by rw [e4]; exact c2) rfl (fun x hx => by simp at hx; omega) (fun x hx => by have := Chg.ok_org (hist_ok h.log x hx); rw [e4]; exact this)
 rw [e4] at g1 g2
 rw [knownL_hist h.log kn] at g1
 obtain ⟨ms, hms⟩ : ∃ ms, missL (hist L (K m)) [(K n 0 : Int), (K n 1 : Int), (K n 2 : Int), 0] = ms := ⟨_, rfl⟩
 have l4 : ms.length <= 1000 := by rw [<- hms]; exact Nat.le_trans (List.length_filter_le _ _) l2
 have G3 := Lib.hid (fun D d w ha hb => uMergeL_any h.log (h.hlen ht) (k := K n) (k' := K m) A ca D d ms w ha hb l4 (fun x hx => miss_sub x (by rw [hms]; exact hx)) (fun x hx => by have := miss_all h.log (k := K n) x hx; rw [hms] at this; exact this) l1 l3)
 rw [hms] at g2
 rw [getK_self]
 clear c1 c2 l1 l2 l3 e4 hms kn km
 obtain ⟨la, hla⟩ : ∃ la, hist L (K n) = la := ⟨_, rfl⟩
 obtain ⟨lb, hlb⟩ : ∃ lb, hist L (K m) = lb := ⟨_, rfl⟩
 obtain ⟨lc, hlc⟩ : ∃ lc, hist L (kmax (K n) (K m)) = lc := ⟨_, rfl⟩
 rw [hla, hlc] at G3
 rw [hla] at g1 hA ⊢
 rw [hlb] at g2 hB ⊢
 rw [hlc]
 clear hla hlb hlc h
 have G1 := Lib.hid g1
 have G2 := Lib.hid g2
 clear g1 g2
 obtain ⟨W1, hW1, hB1, hk1, hl1⟩ := box1 w #[.int .i64 4, .slice A la.length ca] 56
 obtain ⟨W2, hW2, hB2, hk2, hl2⟩ := box1 W1 #[.int .i64 4, .slice B lb.length cb] 56
 obtain ⟨W3, hW3, hB3, hk3, hl3⟩ := box1 W2 #[.int .i64 0, .slice none 0 0] 56
 have hE3 := (hB1.trans hB2).trans hB3
 have ka3 := (hk1.ext hB2).ext hB3
 have kb3 := hk2.ext hB3
 have a1 := ka3.cell
 have a2 := ka3.lt
 have y1 := hB1.size
 have y2 := hB2.size
 go_enter Tryz.func21, Tryz.ntmps21
 go_wp2_with fail
 clear hW1 hW2 hW3
 refine (G1.out _ (hA.ext hE3)).mono ?_
 rintro e w4 ⟨A', c', rfl, ho4, hb4⟩
 have hE4 := hE3.trans hb4
 have ka4 := ka3.ext hb4
 have kb4 := kb3.ext hb4
 have hR4 := ho4.rd
 clear a1 a2
 have b1 := kb4.cell
 have b2 := kb4.lt
 go_wp2_with fail
 refine (G2.out _ _ _ (hB.ext hE4) hR4).mono ?_
 rintro e w5 ⟨u5, rfl, ho5, hb5⟩
 obtain ⟨A5, c5, rfl, hR5⟩ := ho5.form
 have hE5 := hE4.trans hb5
 have ka5 := ka4.ext hb5
 clear b1 b2
 have a1 := ka5.cell
 have a2 := ka5.lt
 go_wp2_with fail
 refine (G3.out A5 c5 _ (hA.ext hE5) hR5).mono ?_
 rintro e w6 ⟨u6, rfl, ho6, hb6⟩
 obtain ⟨A6, c6, rfl, hR6⟩ := ho6.form
 have hE6 := hE5.trans hb6
 have kz6 := ((hk3.ext hb4).ext hb5).ext hb6
 clear a1 a2
 obtain ⟨W7, hW7, hB7, hk7, hl7⟩ := box1 w6 #[.int .i64 4, .slice A6 lc.length c6] 56
 have kz7 := kz6.ext hB7
 have hE7 := hE6.trans hB7
 have ho7 := ho6.ext hB7
 have q1 := hk7.cell
 have q2 := hk7.lt
 have f1 := kz7.cell
 have f2 := kz7.lt
 have f3 := kz7.frozen
 obtain ⟨w9, hw9, hz9, hgr, hE9⟩ : ∃ w9, W7.setCells W2.heap.size 0 [.int .i64 4, .slice A6 lc.length c6] = w9 /\ Blk w9 W2.heap.size 56 #[.int .i64 4, .slice A6 lc.length c6] /\ W7.grownBy w9 (some W2.heap.size) /\ Ext w w9 :=
  ⟨_, rfl, kz7.setCells_ [.int .i64 4, .slice A6 lc.length c6] 0, grown_setCells _ (World.grownBy.refl W7 _) 0, ext_setCells hE7 (by omega) 0 _⟩
 have hs5 := hE5.size
 have ho9 := ho7.kept hgr (fun g hgg e' => by injection e' with e'; have := (ho7.block hgg).1; have := hB3.size; have := hb4.size; have := hb5.size; omega)
 simp only [World.setCells, Nat.zero_add, Nat.reduceAdd] at hw9
 go_wp2
 (try rw [hw9])
 have hc9 := hz9.cell
 refine bodyPost_ret (v := .tuple #[.agg #[.int .i64 4, .slice A6 lc.length c6], .bool true]) (by rw [results_cell_tmp rfl]; simp [asAddr, Result.andThen, hc9, go_sem]) rfl ?_
 exact ⟨_, rfl, ho9.mono hs5, hE9⟩
end Go.Proofs.YtemkpimngbbpkaaGreat
namespace Go.Proofs.YtemkpimngbbpkaaGreat
set_option linter.unusedVariables false
set_option linter.unusedSimpArgs false
open Go.RowKit Go.Shelf
structure Hs where
 A : Option Addr
 n : Nat
 c : Nat
def EHs : Elt Hs := ⟨fun x => [.int .i64 4, .slice x.A x.n x.c], 2, fun _ => rfl, by omega, fun x u hu => by simp at hu; rcases hu with h | h <;> subst h <;> rfl⟩
structure HAt (w : World) (base B : Nat) (L : Nat -> List Chg) (K : Nat -> Nat -> Nat) (xs : List Hs) : Prop where
 own : Owns EHs w base 56 (.slice (some ⟨B, 0, none⟩) 3 3) xs
 len : xs.length = 3
 hs : ∀ (p : Nat) (x : Hs), xs[p]? = some x -> Owns EChg w base 63 (.slice x.A x.n x.c) (hist L (K p))
section
variable {w w' : World} {base B : Nat} {L : Nat -> List Chg} {K : Nat -> Nat -> Nat} {xs : List Hs}
theorem HAt.ext (h : HAt w base B L K xs) (hb : Ext w w') : HAt w' base B L K xs := ⟨h.own.ext hb, h.len, fun p x hx => (h.hs p x hx).ext hb⟩
theorem HAt.at_ (h : HAt w base B L K xs) {p : Nat} (hp : p < 3) : ∃ (A : Option Addr) (c : Nat), Rd EChg w A (hist L (K p)) /\ w.cell? ⟨B, p * 2, none⟩ = some (.int .i64 4) /\ w.cell? ⟨B, p * 2 + 1, none⟩ = some (.slice A (hist L (K p)).length c) := by
 have hp' : p < xs.length := by rw [h.len]; exact hp
 have h1 := h.hs p xs[p] (List.getElem?_eq_getElem hp')
 obtain ⟨cur, hb, _, _, hc⟩ := h.own.there_
 refine ⟨xs[p].A, xs[p].c, h1.rd, ?_, ?_⟩
 ·have := hc p hp' 0 (by decide)
  rw [hb.cell]
  exact this
 ·have := hc p hp' 1 (by decide)
  rw [hb.cell, <- h1.len]
  exact this
theorem HAt.free (h : HAt w base B L K xs) : B < w.heap.size /\ (∀ i, w.frozen? ⟨B, i, none⟩ = false) /\ base <= B := by
 obtain ⟨cur, hb, _, _, hc⟩ := h.own.there_
 exact ⟨hb.lt, hb.frozen, (h.own.block rfl).1⟩
theorem HAt.set (h : HAt w base B L K xs) {n : Nat} (hn : n < 3) {A : Option Addr} {c : Nat} {l : List Chg} (ho : Owns EChg w base 63 (.slice A l.length c) l) {L' : Nat -> List Chg} {K' : Nat -> Nat -> Nat}
 (he : hist L' (K' n) = l) (hne : ∀ p, p < 3 -> p ≠ n -> hist L' (K' p) = hist L (K p)) : HAt (w.setCells B (n * 2) [.int .i64 4, .slice A l.length c]) base B L' K' (xs.set n ⟨A, l.length, c⟩) := by
 have hg : w.grownBy (w.setCells B (n * 2) [.int .i64 4, .slice A l.length c]) (Value.slice (some ⟨B, 0, none⟩) 3 3).ownBlock := grown_setCells _ (World.grownBy.refl w _) _
 refine ⟨h.own.set_ (by rw [h.len]; exact hn) ⟨A, l.length, c⟩, by rw [List.length_set, h.len], fun p x hx => ?_⟩
 have hp : p < 3 := by
  have := (List.getElem?_eq_some_iff.1 hx).1
  rw [List.length_set, h.len] at this
  exact this
 by_cases e : p = n
 ·subst e
  rw [List.getElem?_set_self (by rw [h.len]; exact hp)] at hx
  injection hx with hx
  subst hx
  rw [he]
  exact ho.kepttZ h.own (by decide) hg
 ·rw [List.getElem?_set_ne (by omega)] at hx
  rw [hne p hp e]
  exact (h.hs p x hx).kepttZ h.own (by decide) hg
end
structure Act1 where
 node : Int
 oth : Int
 idx : Int
 rem : Bool
def EAct : Elt Act1 := ⟨fun x => [.int .i64 x.node, .int .i64 x.oth, .int .i64 x.idx, .bool x.rem], 4, fun _ => rfl, by omega, fun x u hu => by simp at hu; rcases hu with h | h | h | h <;> subst h <;> rfl⟩
theorem Rd.act {w : World} {A : Option Addr} {l : List Act1} (h : Rd EAct w A l) {k : Nat} (hk : k < l.length) : ∃ b o, A = some ⟨b, o, none⟩ /\ b < w.heap.size /\
 w.cell? ⟨b, o + k * 4, none⟩ = some (.int .i64 l[k].node) /\ w.cell? ⟨b, o + k * 4 + 1, none⟩ = some (.int .i64 l[k].oth) /\ w.cell? ⟨b, o + k * 4 + 2, none⟩ = some (.int .i64 l[k].idx) /\ w.cell? ⟨b, o + k * 4 + 3, none⟩ = some (.bool l[k].rem) := by
 obtain ⟨b, o, rfl, hb, hc⟩ := h.at hk
 exact ⟨b, o, rfl, hb, hc 0 _ rfl, hc 1 _ rfl, hc 2 _ rfl, hc 3 _ rfl⟩
def nd3 (z : Int) : Nat := (((z.tmod 3 + 3).tmod 3)).toNat
theorem nd3_lt (z : Int) : nd3 z < 3 := by
 unfold nd3
 have h1 : (z.tmod 3 + 3).tmod 3 < 3 := Int.tmod_lt_of_pos _ (by omega)
 omega
theorem nd3_eq (z : Int) : (z.tmod 3 + 3).tmod 3 = (nd3 z : Int) := by
 unfold nd3
 have h1 : -3 < z.tmod 3 := Int.lt_tmod_of_pos z (by omega)
 have h2 : 0 <= (z.tmod 3 + 3).tmod 3 := Int.tmod_nonneg _ (by omega)
 omega
end Go.Proofs.YtemkpimngbbpkaaGreat
namespace Go.Proofs.YtemkpimngbbpkaaGreat
set_option linter.unusedVariables false
set_option linter.unusedSimpArgs false
open Go.RowKit Go.Shelf
attribute [local go_sem] Oper.semAt_some
def ChgR (L : Nat -> List Chg) (K : Nat -> Nat -> Nat) (n : Nat) (w : World) (e : Ending) (w' : World) : Prop :=
 ∃ (i : Int) (A : Option Addr) (c : Nat) (l : List Chg) (ee : Int), e = .returned (.tuple #[.agg #[.int .i64 i, .slice A l.length c], .int .i64 ee]) /\ Owns EChg w' w.heap.size 63 (.slice A l.length c) l /\ Ext w w' /\
   (ee = 0 -> i = 4 /\ ∃ kind con x, nextC (hist L (K n)) n kind con = x /\ x.ok 4 = true /\ l = hist (updL L n x) (pltK L K n n))
section
variable {t : Nat} {L : Nat -> List Chg} {K : Nat -> Nat -> Nat}
theorem chgPut_any (h : PlayS t L K) (ht : t <= 900) {n : Nat} (hn : n < 3) (A : Option Addr) (cc : Nat) (c : Con) (w : World) (hA : Rd EChg w A (hist L (K n))) :
 Calls Tryz.prog 41 #[.agg #[.int .i64 4, .slice A (hist L (K n)).length cc], .int .i64 n, c.val] w (ChgR L K n w) := by
 have hl : (hist L (K n)).length <= t := h.hl (fun o => h.le n o hn)
 have h0 := hist_chk h.log (K n) (by omega)
 have hb := hist_chb h.log (h.hlen (by omega)) (k := K n)
 cases hok : (nextC (hist L (K n)) n 1 c).ok 4 with
 | true =>
   refine (uPut_any 4 A cc _ n c w hA (by omega) hb h0 hok).mono ?_
   rintro e w' ⟨u, ts, rfl, hp, hs, ho, hx⟩
   have hts := h.sorted hn rfl hok hp (hs.imp le_of_sorted)
   obtain ⟨A', c', rfl, _⟩ := ho.form
   exact ⟨4, A', c', ts, 0, rfl, ho, hx, fun _ => ⟨rfl, 1, c, _, rfl, hok, hts⟩⟩
 | false =>
   refine (uPut_bad 4 A cc _ n c w hA (by omega) hb h0 hok).mono ?_
   rintro e w' ⟨rfl, hx⟩
   exact ⟨0, none, 0, [], 2, rfl, Owns.none_ _ _, hx, fun h => by omega⟩
theorem chgRem_any (h : PlayS t L K) (ht : t <= 900) {n : Nat} (hn : n < 3) (A : Option Addr) (cc : Nat) (c : Con) (w : World) (hA : Rd EChg w A (hist L (K n))) :
 Calls Tryz.prog 55 #[.agg #[.int .i64 4, .slice A (hist L (K n)).length cc], .int .i64 n, c.val] w (ChgR L K n w) := by
 have hl : (hist L (K n)).length <= t := h.hl (fun o => h.le n o hn)
 have h0 := hist_chk h.log (K n) (by omega)
 have hb := hist_chb h.log (h.hlen (by omega)) (k := K n)
 refine (uRem_any 4 A cc _ n c w hA (by omega) hb h0).mono ?_
 rintro e w' ⟨hx, (⟨ee, hee, rfl⟩ | ⟨hok, u, ts, rfl, hp, hs, ho⟩)⟩
 ·exact ⟨0, none, 0, [], ee, rfl, Owns.none_ _ _, hx, fun h => absurd h hee⟩
 ·have hts := h.sorted hn rfl hok hp (hs.imp le_of_sorted)
  obtain ⟨A', c', rfl, _⟩ := ho.form
  exact ⟨4, A', c', ts, 0, rfl, ho, hx, fun _ => ⟨rfl, 2, c.bare, _, rfl, hok, hts⟩⟩
end
theorem near_of9 (W : World) : ∀ w', Ext W w' -> Ext W w' /\ ∀ b o, b < W.heap.size -> w'.cell? ⟨b, o, none⟩ = W.cell? ⟨b, o, none⟩ := fun w' h => ⟨h, fun b o hb => h.cell hb⟩
set_option maxRecDepth 100000 in
set_option maxHeartbeats 16000000 in
theorem play_any (Aa : Option Addr) (ca : Nat) (acts : List Act1) (Ac : Option Addr) (cc : Nat) (cons : List Con) (w : World) (hA : Rd EAct w Aa acts) (hC : Rd ECon w Ac cons) (hl : acts.length <= 20) (hcl : cons.length <= 8) :
 Calls Tryz.prog 15 #[.agg #[.slice Aa acts.length ca, .slice Ac cons.length cc]] w fun e w' => ∃ B L K xs, e = .returned (.tuple #[.slice (some ⟨B, 0, none⟩) 3 3, .bool true]) /\ PlayS 20 L K /\ HAt w' w.heap.size B L K xs /\ Ext w w' := by
 obtain ⟨W1, hW1, hB1, hk1, hl1⟩ := box1 w #[.slice Aa acts.length ca, .slice Ac cons.length cc] 48
 go_enter Tryz.func15, Tryz.ntmps15
 go_wp2_with fail
 clear hW1
 refine (uNew_any 4 _ (by omega)).mono ?_
 rintro e w1 ⟨rfl, hb1⟩
 have hk1' := hk1.ext hb1
 obtain ⟨V2, hV2, hV2e, hv2, hvl2⟩ := box1 w1 #[.int .i64 0, .slice none 0 0] 56
 obtain ⟨W2, hW2, hk2, hB2⟩ : ∃ W2, V2.setCells w1.heap.size 0 [.int .i64 4, .slice none 0 0] = W2 /\ Blk W2 w1.heap.size 56 #[.int .i64 4, .slice none 0 0] /\ Ext w1 W2 :=
  ⟨_, rfl, hv2.setCells_ [.int .i64 4, .slice none 0 0] 0, ext_setCells hV2e (Nat.le_refl _) 0 _⟩
 simp only [World.setCells, Nat.zero_add, Nat.reduceAdd] at hW2
 have hE2 := (hB1.trans hb1).trans hB2
 have q1 := hv2.cell
 have q2 := hv2.lt
 have q3 := hv2.frozen
 go_upto_region 2 with fail
 (try rw [hW2])
 clear hW2 hV2 q1 q2 q3
 have ks2 := hk1'.ext hB2
 obtain ⟨W3, hW3, hB3, hk3, hl3⟩ := box1 W2 #[.int .i64 4, .slice none 0 0, .int .i64 4, .slice none 0 0, .int .i64 4, .slice none 0 0] 56
 have q1 := hk2.cell
 have q2 := hk2.lt
 have ks3 := ks2.ext hB3
 have c1 := ks3.cell
 have c2 := ks3.lt
 have hE3 := hE2.trans hB3
 have hH3 : HAt W3 w.heap.size W2.heap.size (fun _ => []) (fun _ _ => 0) [⟨none, 0, 0⟩, ⟨none, 0, 0⟩, ⟨none, 0, 0⟩] :=
  ⟨⟨by simp [Elt.all, EHs], .inr ⟨_, 3, _, rfl, hE2.size, hk3, by simp, by simp [maxLen], by rfl, by rfl⟩⟩, rfl, fun p x hx => by
    have h0 : hist (fun _ => []) (fun _ => 0) = [] := rfl
    rw [h0]
    match p, hx with
    | 0, hx => cases hx; exact Owns.none_ _ _
    | 1, hx => cases hx; exact Owns.none_ _ _
    | 2, hx => cases hx; exact Owns.none_ _ _⟩
 go_upto_region 4 with fail
 (try rw [hW3])
 clear hW3 q1 q2 c1 c2
 have hws : w.heap.size < W2.heap.size := by have := hb1.size; have := hB2.size; omega
 go_loopg [27] acts.length (fun m vi wr => ∃ (k : Nat) (L : Nat -> List Chg) (K : Nat -> Nat -> Nat) (xs : List Hs), k + m = acts.length /\ vi = .int .i64 k /\ PlayS k L K /\ HAt wr w.heap.size W2.heap.size L K xs /\ Blk wr w.heap.size 48 #[.slice Aa acts.length ca, .slice Ac cons.length cc] /\ Ext w wr)
 case atStart => exact ⟨0, _, _, _, by omega, by go_num, playS_start 0, hH3, ks3, hE3⟩
 case round =>
  obtain ⟨k, L, K, xs, hkn, rfl, hP, hH, ks, hE⟩ := hrel
  have Hkn := Lib.hid hkn
  by_cases hlt : k < acts.length
  ·obtain ⟨b, o, rfl, hb, a0, a1, a2, a3⟩ := (hA.ext hE).act hlt
   generalize acts[k] = x at *
   obtain ⟨nd, ot, ix, rm⟩ := x
   dsimp only at a0 a1 a2 a3
   have e1 := nd3_eq nd
   have e2 := nd3_eq ot
   have n3 := nd3_lt nd
   have m3 := nd3_lt ot
   generalize nd3 nd = n at *
   generalize nd3 ot = m at *
   obtain ⟨W5, hW5, hB5, hk5, hl5⟩ := box1 wr #[.int .i64 nd, .int .i64 ot, .int .i64 ix, .bool rm] 143
   have c5 := hk5.cell
   have l5 := hk5.lt
   have hH5 := hH.ext hB5
   have ks5 := ks.ext hB5
   have hE5 := hE.trans hB5
   clear hkn
   go_upto_region 6 with fail
   (try rw [hW5])
   clear hW5 a0 a1 a2 a3
   obtain ⟨r1, hr1⟩ : ∃ r1, nd.tmod 3 = r1 := ⟨_, rfl⟩
   obtain ⟨r2, hr2⟩ : ∃ r2, ot.tmod 3 = r2 := ⟨_, rfl⟩
   have x1 : -3 < r1 /\ r1 < 3 := by rw [<- hr1]; exact ⟨Int.lt_tmod_of_pos nd (by omega), Int.tmod_lt_of_pos nd (by omega)⟩
   have x2 : -3 < r2 /\ r2 < 3 := by rw [<- hr2]; exact ⟨Int.lt_tmod_of_pos ot (by omega), Int.tmod_lt_of_pos ot (by omega)⟩
   rw [hr1] at e1
   rw [hr2] at e2
   have e3 : wrap64 (r1 + 3) = r1 + 3 := by unfold wrap64; omega
   have e4 : wrap64 (r2 + 3) = r2 + 3 := by unfold wrap64; omega
   go_region
   clear e1 e2 e3 e4 hr1 hr2 x1 x2
   obtain ⟨W6, hW6, hB6⟩ : ∃ W6, W5.drew = W6 /\ Ext W5 W6 := ⟨_, rfl, (Ext.refl _).drew⟩
   have hH6 := hH5.ext hB6
   have ks6 := ks5.ext hB6
   have k6 := hk5.ext hB6
   have hE6 := hE5.trans hB6
   have c6 := k6.cell
   have l6 := k6.lt
   have s6 := ks6.cell
   have sl6 := ks6.lt
   go_upto_region 7 with fail
   rw [hW6]
   obtain ⟨gb, hgb⟩ : ∃ gb : Bool, (decide (ix < 0) || decide (cons.length = 0)) = gb := ⟨_, rfl⟩
   clear hW6 c5 l5
   go_cut [49] from 41 to 50 (fun v wx => v = .bool gb /\ wx = W6)
   case first =>
    by_cases i0 : ix < 0
    ·have d0 : decide (ix < 0) = true := decide_eq_true i0
     rw [d0] at hgb
     have Hgb := Lib.hid hgb
     clear hgb i0
     go_wp2
     go_meet
     exact ⟨by rw [<- Hgb.out]; rfl, rfl⟩
    ·have d0 : decide (ix < 0) = false := decide_eq_false i0
     rw [d0] at hgb
     clear i0
     by_cases c0 : cons.length = 0
     ·have d1 : ((cons.length : Int) == 0) = true := by rw [beq_iff_eq]; omega
      rw [decide_eq_true c0] at hgb
      have Hgb := Lib.hid hgb
      clear hgb
      obtain ⟨cn, hcn⟩ : ∃ cn : Int, (cons.length : Int) = cn := ⟨_, rfl⟩
      go_wp2
      go_meet
      exact ⟨by rw [<- Hgb.out]; rfl, rfl⟩
     ·have d1 : ((cons.length : Int) == 0) = false := by rw [beq_eq_false_iff_ne]; omega
      rw [decide_eq_false c0] at hgb
      have Hgb := Lib.hid hgb
      clear hgb
      go_wp2
      go_meet
      exact ⟨by rw [<- Hgb.out]; rfl, rfl⟩
   case rest =>
    obtain ⟨rfl, rfl⟩ := hcut
    generalize wc = W6 at *
    have n3i : (n : Int) < 3 := by omega
    have m3i : (m : Int) < 3 := by omega
    obtain ⟨An, cn, hRn, x1, x2⟩ := hH6.at_ n3
    obtain ⟨f1, f2, f3⟩ := hH6.free
    cases gb with
    | true =>
      obtain ⟨Am, cm, hRm, y1, y2⟩ := hH6.at_ m3
      have G := Lib.hid (fun w ha hb => get_any hP (by omega) n3 m3 An cn Am cm w ha hb)
      go_upto_region 8 with fail
      go_cut [11, 12] from 50 to 62 (fun a11 a12 wx => ∃ (g : Nat) (A : Option Addr) (c : Nat) (l : List Chg), a11 = .pointer (some ⟨g, 0, none⟩) /\ a12 = .bool true /\ l = hist L (getK K n m n) /\ W6.heap.size <= g /\ Blk wx g 56 #[.int .i64 4, .slice A l.length c] /\ Owns EChg wx W6.heap.size 63 (.slice A l.length c) l /\ Ext W6 wx)
      case first =>
       have near := near_of9 W6
       obtain ⟨ln, hln⟩ : ∃ ln, hist L (K n) = ln := ⟨_, rfl⟩
       obtain ⟨lm, hlm⟩ : ∃ lm, hist L (K m) = lm := ⟨_, rfl⟩
       rw [hln] at hRn x2
       rw [hlm] at hRm y2
       rw [hln, hlm] at G
       obtain ⟨lg, hlg⟩ : ∃ lg, hist L (getK K n m n) = lg := ⟨_, rfl⟩
       rw [hlg] at G
       have Hlg := Lib.hid hlg
       clear hln hlm hlg
       refine wp_region_P (fun _ => false) (fun w' => Ext W6 w' /\ ∀ b o, b < W6.heap.size -> w'.cell? ⟨b, o, none⟩ = W6.cell? ⟨b, o, none⟩) (by kernel_rfl) (near _ (Ext.refl W6).drew) (fun _ => ?_)
       refine pT 0 (v := ?_) rfl (fun _ _ _ h => h) (by rfl) ?_ ?_
       rotate_left
       ·intro w'; go_simp; first | done | with_reducible rfl
       try simp only [Act.put, sp1]
       refine pT 1 (v := ?_) rfl (fun _ _ _ h => h) (by rfl) ?_ ?_
       rotate_left
       ·intro w'; go_simp; first | done | with_reducible rfl
       try simp only [Act.put, sp1]
       refine pT 2 (v := ?_) rfl (fun _ _ _ h => h) (by rfl) ?_ ?_
       rotate_left
       ·intro w'; go_simp; first | done | with_reducible rfl
       try simp only [Act.put, sp1]
       refine pK 3 (v := ?_) rfl (fun _ _ _ h => h) (by rfl) ?_ (by assumption) ?_
       rotate_left
       ·intro w' hw'
        (try have hC := hw'.2)
        (try have hC9 := hw'.1)
        go_simp
        first | done | with_reducible rfl
       try simp only [Act.put, sp1]
       refine pT 4 (v := ?_) rfl (fun _ _ _ h => h) (by rfl) ?_ ?_
       rotate_left
       ·intro w'; go_simp; first | done | with_reducible rfl
       try simp only [Act.put, sp1]
       refine pT 5 (v := ?_) rfl (fun _ _ _ h => h) (by rfl) ?_ ?_
       rotate_left
       ·intro w'; go_simp; first | done | with_reducible rfl
       try simp only [Act.put, sp1]
       refine pT 6 (v := ?_) rfl (fun _ _ _ h => h) (by rfl) ?_ ?_
       rotate_left
       ·intro w'; go_simp; first | done | with_reducible rfl
       try simp only [Act.put, sp1]
       refine pK 7 (v := ?_) rfl (fun _ _ _ h => h) (by rfl) ?_ (by assumption) ?_
       rotate_left
       ·intro w' hw'
        (try have hC := hw'.2)
        (try have hC9 := hw'.1)
        go_simp
        first | done | with_reducible rfl
       try simp only [Act.put, sp1]
       simp only [List.getElem_toArray, List.getElem_cons_succ, List.getElem_cons_zero, Act.put, sp1]
       refine wpAnyP_ready (rs := [8, 12]) (by kernel_rfl) (by simp) ?_
       refine AllReadyP.cons rfl (fun K hK => ?_) (AllReadyP.cons rfl (fun K hK => ?_) AllReadyP.nil)
       ·go_simp
        refine Calls.mono (G.out W6.drew (hRn.ext ((Ext.refl W6).drew)) (hRm.ext ((Ext.refl W6).drew))) ?_
        rintro e w7 ⟨u9, rfl, ho7, hb7⟩; obtain ⟨A9, c9, rfl, hR9⟩ := (ho7).form
        have hx7 := ((Ext.refl W6).drew).trans hb7
        refine hK.out _ _ (fun _ _ => near _ hx7) ?_
        clear hK K
        refine pT 9 (v := ?_) rfl (fun _ _ _ h => h) (by rfl) ?_ ?_
        rotate_left
        ·intro w'; go_simp; first | done | with_reducible rfl
        try simp only [Act.put, sp1]
        refine pT 10 (v := ?_) rfl (fun _ _ _ h => h) (by rfl) ?_ ?_
        rotate_left
        ·intro w'; go_simp; first | done | with_reducible rfl
        try simp only [Act.put, sp1]
        refine pT 11 (v := ?_) rfl (fun _ _ _ h => h) (by rfl) ?_ ?_
        rotate_left
        ·intro w'; go_simp; first | done | with_reducible rfl
        try simp only [Act.put, sp1]
        obtain ⟨w8, hV8, hB8, kz8, lz8⟩ := box1 w7 #[.int .i64 0, .slice none 0 0] 56
        have hx8 := hx7.trans hB8
        have hg8 := hx7.size
        have ho8 := ho7.ext hB8
        obtain ⟨w9, hw9, hz9, ho9, hE9⟩ : ∃ w9, w8.setCells w7.heap.size 0 [.int .i64 4, .slice A9 lg.length c9] = w9 /\ Blk w9 w7.heap.size 56 #[.int .i64 4, .slice A9 lg.length c9] /\ Owns EChg w9 W6.heap.size 63 (.slice A9 lg.length c9) lg /\ Ext W6 w9 :=
         ⟨_, rfl, kz8.setCells_ [.int .i64 4, .slice A9 lg.length c9] 0, ((ho8.setZ kz8 (by decide) 0 _).setZ (kz8.set_ 0 _) (by decide) 1 _).mono (by first | exact Nat.le_refl _ | omega), ext_setCells hx8 hg8 0 _⟩
        simp only [World.setCells, Nat.zero_add, Nat.reduceAdd] at hw9
        have q1 := kz8.cell
        have q2 := kz8.lt
        have q3 := kz8.frozen
        clear q1 q2 q3
        refine pO 12 rfl (fun K hK => ?_)
        go_simp
        refine hK.out _ _ (fun _ _ => near _ hx8) ?_
        clear hK K hV8
        have q1 := kz8.cell
        have q2 := kz8.lt
        have q3 := kz8.frozen
        refine pO 13 rfl (fun K hK => ?_)
        go_simp
        (try rw [hw9])
        refine hK.out _ _ (fun _ _ => near _ hE9) ?_
        clear hK K
        refine pT 14 (v := ?_) rfl (fun _ _ _ h => h) (by rfl) ?_ ?_
        rotate_left
        ·intro w'; go_simp; first | done | with_reducible rfl
        try simp only [Act.put, sp1]
        (try simp only [List.getElem_toArray, List.getElem_cons_succ, List.getElem_cons_zero, Act.put, sp1])
        refine wpAnyP_done (by kernel_rfl) ?_ _
        go_wp2
        go_meet
        exact ⟨_, A9, c9, lg, rfl, rfl, Hlg.out.symm, hg8, hz9, ho9, hE9⟩
       ·obtain ⟨W7, hV7, hB7, kz7, lz7⟩ := box1 W6.drew #[.int .i64 0, .slice none 0 0] 56
        go_simp
        refine hK.out _ _ (fun _ _ => near _ (((Ext.refl W6).drew).trans hB7)) ?_
        clear hK K hV7
        refine pO 8 rfl (fun K hK => ?_)
        go_simp
        refine Calls.mono (G.out W7 (hRn.ext (((Ext.refl W6).drew).trans hB7)) (hRm.ext (((Ext.refl W6).drew).trans hB7))) ?_
        rintro e w8 ⟨u9, rfl, ho8, hb8⟩; obtain ⟨A9, c9, rfl, hR9⟩ := (ho8).form
        have hx8 := (((Ext.refl W6).drew).trans hB7).trans hb8
        refine hK.out _ _ (fun _ _ => near _ hx8) ?_
        clear hK K
        refine pT 9 (v := ?_) rfl (fun _ _ _ h => h) (by rfl) ?_ ?_
        rotate_left
        ·intro w'; go_simp; first | done | with_reducible rfl
        try simp only [Act.put, sp1]
        refine pT 10 (v := ?_) rfl (fun _ _ _ h => h) (by rfl) ?_ ?_
        rotate_left
        ·intro w'; go_simp; first | done | with_reducible rfl
        try simp only [Act.put, sp1]
        refine pT 11 (v := ?_) rfl (fun _ _ _ h => h) (by rfl) ?_ ?_
        rotate_left
        ·intro w'; go_simp; first | done | with_reducible rfl
        try simp only [Act.put, sp1]
        have kz8 : Blk w8 W6.heap.size 56 #[.int .i64 0, .slice none 0 0] := kz7.ext hb8
        have hs7 : W6.heap.size <= W7.heap.size := hB7.size
        have hg8 := Nat.le_refl W6.heap.size
        obtain ⟨w9, hw9, hz9, ho9, hE9⟩ : ∃ w9, w8.setCells W6.heap.size 0 [.int .i64 4, .slice A9 lg.length c9] = w9 /\ Blk w9 W6.heap.size 56 #[.int .i64 4, .slice A9 lg.length c9] /\ Owns EChg w9 W6.heap.size 63 (.slice A9 lg.length c9) lg /\ Ext W6 w9 :=
         ⟨_, rfl, kz8.setCells_ [.int .i64 4, .slice A9 lg.length c9] 0, ((ho8.setZ kz8 (by decide) 0 _).setZ (kz8.set_ 0 _) (by decide) 1 _).mono (by first | exact Nat.le_refl _ | omega), ext_setCells hx8 hg8 0 _⟩
        simp only [World.setCells, Nat.zero_add, Nat.reduceAdd] at hw9
        have q1 := kz8.cell
        have q2 := kz8.lt
        have q3 := kz8.frozen
        refine pO 13 rfl (fun K hK => ?_)
        go_simp
        (try rw [hw9])
        refine hK.out _ _ (fun _ _ => near _ hE9) ?_
        clear hK K
        refine pT 14 (v := ?_) rfl (fun _ _ _ h => h) (by rfl) ?_ ?_
        rotate_left
        ·intro w'; go_simp; first | done | with_reducible rfl
        try simp only [Act.put, sp1]
        (try simp only [List.getElem_toArray, List.getElem_cons_succ, List.getElem_cons_zero, Act.put, sp1])
        refine wpAnyP_done (by kernel_rfl) ?_ _
        go_wp2
        go_meet
        exact ⟨_, A9, c9, lg, rfl, rfl, Hlg.out.symm, hg8, hz9, ho9, hE9⟩
      case rest =>
       obtain ⟨g, A9, c9, l9, rfl, rfl, hl9, hg9, hz9, ho9, hx9⟩ := hcut
       generalize wc = w9 at *
       have hH9 := hH6.ext hx9
       have hE9 := hE6.trans hx9
       have ks9 := ks6.ext hx9
       obtain ⟨An', cn', _, z1, z2⟩ := hH9.at_ n3
       obtain ⟨g1, g2, g3⟩ := hH9.free
       have q1 := hz9.cell
       have q2 := hz9.lt
       have hS := hH9.set n3 (ho9.mono hE6.size) (L' := L) (K' := getK K n m) hl9.symm (fun p hp hpn => by rw [getK_other hpn])
       obtain ⟨W10, hW10, hH10, hE10, ks10⟩ : ∃ W10, w9.setCells W2.heap.size (n * 2) [.int .i64 4, .slice A9 l9.length c9] = W10 /\ HAt W10 w.heap.size W2.heap.size L (getK K n m) (xs.set n ⟨A9, l9.length, c9⟩) /\ Ext w W10 /\ Blk W10 w.heap.size 48 #[.slice (some ⟨b, o, none⟩) acts.length ca, .slice Ac cons.length cc] :=
        ⟨_, rfl, hS, ext_setCells hE9 g3 (n * 2) _, ks9.kept (grown_setCells _ (World.grownBy.refl w9 _) _) (fun e => by injection e with e; omega)⟩
       simp only [World.setCells] at hW10
       have Hl9 := Lib.hid hl9
       clear hl9 hz9 hS hH9 ho9 hH6 ks6 k6 c6 l6 s6 sl6 x1 x2 f1 f2 y1 y2 hRn hRm G
       go_wp2
       (try rw [hW10])
       go_roundg (gk - 1)
       case measure => have := Hkn.out; omega
       case rel => exact ⟨k + 1, L, getK K n m, _, by have := Hkn.out; omega, by go_num, (hP.get n3 m3).more (by omega), hH10, ks10, hE10⟩
    | false =>
      simp only [Bool.or_eq_false_iff, decide_eq_false_iff_not] at hgb
      have hi0 : 0 <= ix := by omega
      have hc0 : 0 < cons.length := by omega
      obtain ⟨j, hj⟩ : ∃ j : Nat, ix.tmod (cons.length : Int) = (j : Int) := ⟨(ix.tmod (cons.length : Int)).toNat, by have := Int.tmod_nonneg (cons.length : Int) hi0; omega⟩
      have hjl : j < cons.length := by have := Int.tmod_lt_of_pos ix (show (0 : Int) < (cons.length : Int) by omega); omega
      obtain ⟨bc, oc, rfl, hbc, b0, b1, b2, b3, b4, b5, b6⟩ := (hC.ext hE6).con hjl
      generalize cons[j] = y at *
      obtain ⟨y0, y1, y2, y3, y4, y5, y6⟩ := y
      dsimp only at b0 b1 b2 b3 b4 b5 b6
      clear hgb
      have hF : ∀ w, Rd EChg w An (hist L (K n)) -> Calls Tryz.prog (if rm then 55 else 41) #[.agg #[.int .i64 4, .slice An (hist L (K n)).length cn], .int .i64 n, .agg #[.int .i64 y0, .int .i64 y1, .int .i64 y2, .int .i64 y3, .int .i64 y4, .int .i64 y5, .int .i64 y6]] w (ChgR L K n w) := by
       cases rm with
       | false => exact fun w h => chgPut_any hP (by omega) n3 An cn ⟨y0, y1, y2, y3, y4, y5, y6⟩ w h
       | true => exact fun w h => chgRem_any hP (by omega) n3 An cn ⟨y0, y1, y2, y3, y4, y5, y6⟩ w h
      have hen : ∀ args w, (callFunc (if rm then 55 else 41) args).run Tryz.prog w = .ok (.enter (if rm then 55 else 41) args) w := by
       cases rm with
       | false => exact enters_of Tryz.func41 (by kernel_rfl) rfl
       | true => exact enters_of Tryz.func55 (by kernel_rfl) rfl
      have hcd : ((cons.length : Int) == 0) = false := by rw [beq_eq_false_iff_ne]; omega
      have hcd2 : ¬ cons = [] := by intro e; rw [e] at hc0; simp at hc0
      have hjl2 : (j : Int) < (cons.length : Int) := by omega
      cases rm
      all_goals
       simp only [if_true, if_false, Bool.false_eq_true] at hF hen
       have HF := Lib.hid hF
       clear hF
       go_upto_region 15 with fail
       go_cut [14, 15] from 71 to 91 (fun a14 a15 wx => ∃ (g : Nat) (i : Int) (A : Option Addr) (c : Nat) (l : List Chg) (ee : Int), a14 = .pointer (some ⟨g, 0, none⟩) /\ a15 = .int .i64 ee /\ (ee = 0 -> i = 4 /\ ∃ kind con x, nextC (hist L (K n)) n kind con = x /\ x.ok 4 = true /\ l = hist (updL L n x) (pltK L K n n)) /\ W6.heap.size <= g /\ Blk wx g 56 #[.int .i64 i, .slice A l.length c] /\ Owns EChg wx W6.heap.size 63 (.slice A l.length c) l /\ Ext W6 wx)
       case first =>
        have near := near_of9 W6
        refine wp_region_P (fun _ => false) (fun w' => Ext W6 w' /\ ∀ b o, b < W6.heap.size -> w'.cell? ⟨b, o, none⟩ = W6.cell? ⟨b, o, none⟩) (by kernel_rfl) (near _ (Ext.refl W6).drew) (fun _ => ?_)
        refine pT 0 (v := ?_) rfl (fun _ _ _ h => h) (by rfl) ?_ ?_
        rotate_left
        ·intro w'; go_simp; first | done | with_reducible rfl
        try simp only [Act.put, sp1]
        refine pT 1 (v := ?_) rfl (fun _ _ _ h => h) (by rfl) ?_ ?_
        rotate_left
        ·intro w'; go_simp; first | done | with_reducible rfl
        try simp only [Act.put, sp1]
        refine pT 2 (v := ?_) rfl (fun _ _ _ h => h) (by rfl) ?_ ?_
        rotate_left
        ·intro w'; go_simp; first | done | with_reducible rfl
        try simp only [Act.put, sp1]
        refine pT 3 (v := ?_) rfl (fun _ _ _ h => h) (by rfl) ?_ ?_
        rotate_left
        ·intro w'; go_simp; first | done | with_reducible rfl
        try simp only [Act.put, sp1]
        refine pK 4 (v := ?_) rfl (fun _ _ _ h => h) (by rfl) ?_ (by assumption) ?_
        rotate_left
        ·intro w' hw'
         (try have hC := hw'.2)
         (try have hC9 := hw'.1)
         go_simp
         first | done | with_reducible rfl
        try simp only [Act.put, sp1]
        refine pT 5 (v := ?_) rfl (fun _ _ _ h => h) (by rfl) ?_ ?_
        rotate_left
        ·intro w'; go_simp; first | done | with_reducible rfl
        try simp only [Act.put, sp1]
        refine pT 6 (v := ?_) rfl (fun _ _ _ h => h) (by rfl) ?_ ?_
        rotate_left
        ·intro w'; go_simp; first | done | with_reducible rfl
        try simp only [Act.put, sp1]
        refine pK 7 (v := ?_) rfl (fun _ _ _ h => h) (by rfl) ?_ (by assumption) ?_
        rotate_left
        ·intro w' hw'
         (try have hC := hw'.2)
         (try have hC9 := hw'.1)
         go_simp
         first | done | with_reducible rfl
        try simp only [Act.put, sp1]
        refine pT 8 (v := ?_) rfl (fun _ _ _ h => h) (by rfl) ?_ ?_
        rotate_left
        ·intro w'; go_simp; first | done | with_reducible rfl
        try simp only [Act.put, sp1]
        refine pK 9 (v := ?_) rfl (fun _ _ _ h => h) (by rfl) ?_ (by assumption) ?_
        rotate_left
        ·intro w' hw'
         (try have hC := hw'.2)
         (try have hC9 := hw'.1)
         go_simp
         first | done | with_reducible rfl
        try simp only [Act.put, sp1]
        refine pT 10 (v := ?_) rfl (fun _ _ _ h => h) (by rfl) ?_ ?_
        rotate_left
        ·intro w'; go_simp; first | done | with_reducible rfl
        try simp only [Act.put, sp1]
        refine pK 11 (v := ?_) rfl (fun _ _ _ h => h) (by rfl) ?_ (by assumption) ?_
        rotate_left
        ·intro w' hw'
         (try have hC := hw'.2)
         (try have hC9 := hw'.1)
         go_simp
         first | done | with_reducible rfl
        try simp only [Act.put, sp1]
        refine pT 12 (v := ?_) rfl (fun _ _ _ h => h) (by rfl) ?_ ?_
        rotate_left
        ·intro w'; go_simp; first | done | with_reducible rfl
        try simp only [Act.put, sp1]
        refine pT 13 (v := ?_) rfl (fun _ _ _ h => h) (by rfl) ?_ ?_
        rotate_left
        ·intro w'; go_simp; first | done | with_reducible rfl
        try simp only [Act.put, sp1]
        refine pT 14 (v := ?_) rfl (fun _ _ _ h => h) (by rfl) ?_ ?_
        rotate_left
        ·intro w'; go_simp; first | done | with_reducible rfl
        try simp only [Act.put, sp1]
        refine pK 15 (v := ?_) rfl (fun _ _ _ h => h) (by rfl) ?_ (by assumption) ?_
        rotate_left
        ·intro w' hw'
         (try have hC := hw'.2)
         (try have hC9 := hw'.1)
         go_simp
         first | done | with_reducible rfl
        try simp only [Act.put, sp1]
        simp only [List.getElem_toArray, List.getElem_cons_succ, List.getElem_cons_zero, Act.put, sp1]
        refine wpAnyP_ready (rs := [16, 20]) (by kernel_rfl) (by simp) ?_
        refine AllReadyP.cons rfl (fun K hK => ?_) (AllReadyP.cons rfl (fun K hK => ?_) AllReadyP.nil)
        ·go_simp
         refine Calls.mono (HF.out W6.drew (hRn.ext ((Ext.refl W6).drew))) ?_
         rintro e w7 ⟨i9, A9, c9, l9, e9, rfl, ho7, hb7, hok9⟩; have Hok9 := Lib.hid hok9; clear hok9
         have hx7 := ((Ext.refl W6).drew).trans hb7
         refine hK.out _ _ (fun _ _ => near _ hx7) ?_
         clear hK K
         refine pT 17 (v := ?_) rfl (fun _ _ _ h => h) (by rfl) ?_ ?_
         rotate_left
         ·intro w'; go_simp; first | done | with_reducible rfl
         try simp only [Act.put, sp1]
         refine pT 18 (v := ?_) rfl (fun _ _ _ h => h) (by rfl) ?_ ?_
         rotate_left
         ·intro w'; go_simp; first | done | with_reducible rfl
         try simp only [Act.put, sp1]
         refine pT 19 (v := ?_) rfl (fun _ _ _ h => h) (by rfl) ?_ ?_
         rotate_left
         ·intro w'; go_simp; first | done | with_reducible rfl
         try simp only [Act.put, sp1]
         obtain ⟨w8, hV8, hB8, kz8, lz8⟩ := box1 w7 #[.int .i64 0, .slice none 0 0] 56
         have hx8 := hx7.trans hB8
         have hg8 := hx7.size
         have ho8 := ho7.ext hB8
         obtain ⟨w9, hw9, hz9, ho9, hE9⟩ : ∃ w9, w8.setCells w7.heap.size 0 [.int .i64 i9, .slice A9 l9.length c9] = w9 /\ Blk w9 w7.heap.size 56 #[.int .i64 i9, .slice A9 l9.length c9] /\ Owns EChg w9 W6.heap.size 63 (.slice A9 l9.length c9) l9 /\ Ext W6 w9 :=
          ⟨_, rfl, kz8.setCells_ [.int .i64 i9, .slice A9 l9.length c9] 0, ((ho8.setZ kz8 (by decide) 0 _).setZ (kz8.set_ 0 _) (by decide) 1 _).mono (by first | exact Nat.le_refl _ | omega), ext_setCells hx8 hg8 0 _⟩
         simp only [World.setCells, Nat.zero_add, Nat.reduceAdd] at hw9
         have q1 := kz8.cell
         have q2 := kz8.lt
         have q3 := kz8.frozen
         clear q1 q2 q3
         refine pO 20 rfl (fun K hK => ?_)
         go_simp
         refine hK.out _ _ (fun _ _ => near _ hx8) ?_
         clear hK K hV8
         have q1 := kz8.cell
         have q2 := kz8.lt
         have q3 := kz8.frozen
         refine pO 21 rfl (fun K hK => ?_)
         go_simp
         (try rw [hw9])
         refine hK.out _ _ (fun _ _ => near _ hE9) ?_
         clear hK K
         refine pT 22 (v := ?_) rfl (fun _ _ _ h => h) (by rfl) ?_ ?_
         rotate_left
         ·intro w'; go_simp; first | done | with_reducible rfl
         try simp only [Act.put, sp1]
         (try simp only [List.getElem_toArray, List.getElem_cons_succ, List.getElem_cons_zero, Act.put, sp1])
         refine wpAnyP_done (by kernel_rfl) ?_ _
         go_wp2
         go_meet
         exact ⟨_, i9, A9, c9, l9, e9, rfl, rfl, Hok9.out, hg8, hz9, ho9, hE9⟩
        ·obtain ⟨W7, hV7, hB7, kz7, lz7⟩ := box1 W6.drew #[.int .i64 0, .slice none 0 0] 56
         go_simp
         refine hK.out _ _ (fun _ _ => near _ (((Ext.refl W6).drew).trans hB7)) ?_
         clear hK K hV7
         refine pO 16 rfl (fun K hK => ?_)
         go_simp
         refine Calls.mono (HF.out W7 (hRn.ext (((Ext.refl W6).drew).trans hB7))) ?_
         rintro e w8 ⟨i9, A9, c9, l9, e9, rfl, ho8, hb8, hok9⟩; have Hok9 := Lib.hid hok9; clear hok9
         have hx8 := (((Ext.refl W6).drew).trans hB7).trans hb8
         refine hK.out _ _ (fun _ _ => near _ hx8) ?_
         clear hK K
         refine pT 17 (v := ?_) rfl (fun _ _ _ h => h) (by rfl) ?_ ?_
         rotate_left
         ·intro w'; go_simp; first | done | with_reducible rfl
         try simp only [Act.put, sp1]
         refine pT 18 (v := ?_) rfl (fun _ _ _ h => h) (by rfl) ?_ ?_
         rotate_left
         ·intro w'; go_simp; first | done | with_reducible rfl
         try simp only [Act.put, sp1]
         refine pT 19 (v := ?_) rfl (fun _ _ _ h => h) (by rfl) ?_ ?_
         rotate_left
         ·intro w'; go_simp; first | done | with_reducible rfl
         try simp only [Act.put, sp1]
         have kz8 : Blk w8 W6.heap.size 56 #[.int .i64 0, .slice none 0 0] := kz7.ext hb8
         have hs7 : W6.heap.size <= W7.heap.size := hB7.size
         have hg8 := Nat.le_refl W6.heap.size
         obtain ⟨w9, hw9, hz9, ho9, hE9⟩ : ∃ w9, w8.setCells W6.heap.size 0 [.int .i64 i9, .slice A9 l9.length c9] = w9 /\ Blk w9 W6.heap.size 56 #[.int .i64 i9, .slice A9 l9.length c9] /\ Owns EChg w9 W6.heap.size 63 (.slice A9 l9.length c9) l9 /\ Ext W6 w9 :=
          ⟨_, rfl, kz8.setCells_ [.int .i64 i9, .slice A9 l9.length c9] 0, ((ho8.setZ kz8 (by decide) 0 _).setZ (kz8.set_ 0 _) (by decide) 1 _).mono (by first | exact Nat.le_refl _ | omega), ext_setCells hx8 hg8 0 _⟩
         simp only [World.setCells, Nat.zero_add, Nat.reduceAdd] at hw9
         have q1 := kz8.cell
         have q2 := kz8.lt
         have q3 := kz8.frozen
         refine pO 21 rfl (fun K hK => ?_)
         go_simp
         (try rw [hw9])
         refine hK.out _ _ (fun _ _ => near _ hE9) ?_
         clear hK K
         refine pT 22 (v := ?_) rfl (fun _ _ _ h => h) (by rfl) ?_ ?_
         rotate_left
         ·intro w'; go_simp; first | done | with_reducible rfl
         try simp only [Act.put, sp1]
         (try simp only [List.getElem_toArray, List.getElem_cons_succ, List.getElem_cons_zero, Act.put, sp1])
         refine wpAnyP_done (by kernel_rfl) ?_ _
         go_wp2
         go_meet
         exact ⟨_, i9, A9, c9, l9, e9, rfl, rfl, Hok9.out, hg8, hz9, ho9, hE9⟩
       case rest =>
        obtain ⟨g, i9, A9, c9, l9, e9, rfl, rfl, hok9, hg9, hz9, ho9, hx9⟩ := hcut
        generalize wc = w9 at *
        have hH9 := hH6.ext hx9
        have hE9 := hE6.trans hx9
        have ks9 := ks6.ext hx9
        by_cases he9 : e9 = 0
        ·subst he9
         obtain ⟨rfl, kind, con, x, hx, hok, hl9⟩ := hok9 rfl
         obtain ⟨An', cn', _, z1, z2⟩ := hH9.at_ n3
         obtain ⟨g1, g2, g3⟩ := hH9.free
         have q1 := hz9.cell
         have q2 := hz9.lt
         have hS := hH9.set n3 (ho9.mono hE6.size) (L' := updL L n x) (K' := pltK L K n) hl9.symm (fun p hp hpn => hP.other hp hpn x)
         obtain ⟨W10, hW10, hH10, hE10, ks10⟩ : ∃ W10, w9.setCells W2.heap.size (n * 2) [.int .i64 4, .slice A9 l9.length c9] = W10 /\ HAt W10 w.heap.size W2.heap.size (updL L n x) (pltK L K n) (xs.set n ⟨A9, l9.length, c9⟩) /\ Ext w W10 /\ Blk W10 w.heap.size 48 #[.slice (some ⟨b, o, none⟩) acts.length ca, .slice (some ⟨bc, oc, none⟩) cons.length cc] :=
          ⟨_, rfl, hS, ext_setCells hE9 g3 (n * 2) _, ks9.kept (grown_setCells _ (World.grownBy.refl w9 _) _) (fun e => by injection e with e; omega)⟩
         simp only [World.setCells] at hW10
         have Hl9 := Lib.hid hl9
         have HN := Lib.hid (hP.put n3 hx hok)
         clear hl9 hx hok hok9 hz9 hS hH9 ho9 hH6 ks6 k6 c6 l6 s6 sl6 x1 x2 f1 f2 hRn HF
         go_wp2
         (try rw [hW10])
         go_roundg (gk - 1)
         case measure => have := Hkn.out; omega
         case rel => exact ⟨k + 1, _, _, _, by have := Hkn.out; omega, by go_num, HN.out, hH10, ks10, hE10⟩
        ·have he : (e9 == 0) = false := by rw [beq_eq_false_iff_ne]; exact he9
         clear hok9 hz9 ho9 hH6 ks6 k6 c6 l6 s6 sl6 x1 x2 f1 f2 hRn HF he9
         go_wp2
         go_roundg (gk - 1)
         case measure => have := Hkn.out; omega
         case rel => exact ⟨k + 1, L, K, _, by have := Hkn.out; omega, by go_num, hP.more (by omega), hH9, ks9, hE9⟩
  ·go_wp2
   go_ret2
   exact ⟨_, L, K, xs, rfl, hP.more (by omega), hH, hE⟩
end Go.Proofs.YtemkpimngbbpkaaGreat
namespace Go.Proofs.YtemkpimngbbpkaaGreat
set_option linter.unusedVariables false
set_option linter.unusedSimpArgs false
open Go.RowKit Go.Shelf
attribute [local go_sem] Oper.semAt_some
set_option maxRecDepth 100000 in
set_option maxHeartbeats 4000000 in
theorem equalChg_same (A B : Option Addr) (c d : Nat) (l : List Chg) (w : World) (hA : Rd EChg w A l) (hB : Rd EChg w B l) (hmax : l.length <= 1000000) :
 Calls Tryz.prog 17 #[.slice A l.length c, .slice B l.length d] w fun e w' => e = .returned (.bool true) /\ Ext w w' := by
 go_enter Tryz.func17, Tryz.ntmps17
 go_wp2
 go_loopg [13] l.length (fun q i wr => ∃ k : Nat, k + q = l.length /\ i = .int .i64 k /\ Ext w wr)
 case atStart => exact ⟨0, by omega, rfl, Ext.refl _⟩
 case round =>
  obtain ⟨k, hk, rfl, hE⟩ := hrel
  by_cases hlt : k < l.length
  ·obtain ⟨b, o, rfl, hb, a0, a1, a2, a3, a4, a5, a6, a7, a8, a9, a10⟩ := (hA.ext hE).chg hlt
   obtain ⟨b2, o2, rfl, hb2, d0, d1, d2, d3, d4, d5, d6, d7, d8, d9, d10⟩ := (hB.ext hE).chg hlt
   generalize l[k] = x at *
   have hne := fun w => neqChg_run x x w
   rw [chgEq_iff.2 rfl] at hne
   obtain ⟨xo, xc, xs, xk, ⟨xsrc, xdst, xst, xen, xrate, xrng, xloss⟩⟩ := x
   unfold Chg.arr at hne
   dsimp only at *
   have hN := Near.refl wr
   go_wp2
   have hq := quiet_near hN
   refine wp_region_quiet_below (by kernel_rfl) (by kernel_rfl) ?_
   repeat (first | go_big_quiet_skip | (go_big_quiet_want; go_big_quiet_op; first | go_big_quiet_on | (apply Exists.intro; refine ⟨fun _ => ?_, ?_⟩; (focus (first | fail)); go_big_quiet_on)))
   refine wpQuiet_nil ?_
   intro w1 hw1
   clear hq
   replace hw1 := quiet_ext hw1
   replace hN := hN.step hw1
   have hC := hN.2
   go_wp2
   go_roundg (gk - 1)
   case measure => omega
   case rel => exact ⟨k + 1, by omega, by go_num, hE.trans hN.1⟩
  ·go_wp2
   go_ret
   exact ⟨rfl, hE⟩
set_option maxRecDepth 100000 in
set_option maxHeartbeats 4000000 in
theorem indexChg_any (A : Option Addr) (c : Nat) (l : List Chg) (x : Chg) (w : World) (hA : Rd EChg w A l) (hmax : l.length <= 1000000) (hx : x ∈ l) :
 Calls Tryz.prog 76 #[.slice A l.length c, .agg x.arr] w fun e w' => ∃ k : Nat, e = .returned (.int .i64 k) /\ k <= l.length /\ Ext w w' := by
 obtain ⟨p, hp, hpx⟩ := List.mem_iff_getElem.1 hx
 have Hpx := Lib.hid hpx
 clear hpx hx
 have hne := fun y w => eqlChg_run x y w
 obtain ⟨xo, xc, xs, xk, ⟨xsrc, xdst, xst, xen, xrate, xrng, xloss⟩⟩ := x
 unfold Chg.arr at hne ⊢
 dsimp only at hne ⊢
 obtain ⟨W1, hW1, hB1, hk1, hl1⟩ := box1 w #[.int .i64 xo, .int .i64 xc, .int .i64 xs, .int .i64 xk, .int .i64 xsrc, .int .i64 xdst, .int .i64 xst, .int .i64 xen, .int .i64 xrate, .int .i64 xrng, .int .i64 xloss] 63
 go_enter Tryz.func76, Tryz.ntmps76
 go_wp2
 clear hW1
 go_loopg [8] l.length (fun q i wr => ∃ k : Nat, k + q = l.length /\ k <= p /\ i = .int .i64 k /\ Ext W1 wr)
 case atStart => exact ⟨0, by omega, Nat.zero_le _, rfl, Ext.refl _⟩
 case round =>
  obtain ⟨k, hk, hkp, rfl, hE⟩ := hrel
  have hlt : k < l.length := by omega
  obtain ⟨b, o, rfl, hb, a0, a1, a2, a3, a4, a5, a6, a7, a8, a9, a10⟩ := (hA.ext (hB1.trans hE)).chg hlt
  have hy := hne l[k]
  have hkk := hk1.ext hE
  have c1 := hkk.cell
  have c2 := hkk.lt
  have Hq := Lib.hid (show chgEq ⟨xo, xc, xs, xk, ⟨xsrc, xdst, xst, xen, xrate, xrng, xloss⟩⟩ l[k] = false -> k < p from fun h => by
   rcases Nat.lt_or_ge k p with h1 | h1
   ·exact h1
   ·obtain rfl : k = p := by omega
    rw [Hpx.out, chgEq_iff.2 rfl] at h
    cases h)
  obtain ⟨v, hv⟩ : ∃ v, chgEq ⟨xo, xc, xs, xk, ⟨xsrc, xdst, xst, xen, xrate, xrng, xloss⟩⟩ l[k] = v := ⟨_, rfl⟩
  rw [hv] at hy Hq
  clear hv hne hkp
  generalize l[k] = y at *
  obtain ⟨yo, yc, ys, yk, ⟨ysrc, ydst, yst, yen, yrate, yrng, yloss⟩⟩ := y
  dsimp only at *
  have hN := Near.refl wr
  cases v with
  | true =>
    go_wp2
    have hq := quiet_near hN
    refine wp_region_quiet_below (by kernel_rfl) (by kernel_rfl) ?_
    repeat (first | go_big_quiet_skip | (go_big_quiet_want; go_big_quiet_op; first | go_big_quiet_on | (apply Exists.intro; refine ⟨fun _ => ?_, ?_⟩; (focus (first | fail)); go_big_quiet_on)))
    refine wpQuiet_nil ?_
    intro w1 hw1
    clear hq
    replace hw1 := quiet_ext hw1
    replace hN := hN.step hw1
    have hC := hN.2
    go_wp2
    go_ret
    exact ⟨k, rfl, by omega, (hB1.trans hE).trans hN.1⟩
  | false =>
    have hkp' := Hq.out rfl
    have Hk := Lib.hid hkp'
    clear hkp'
    go_wp2
    have hq := quiet_near hN
    refine wp_region_quiet_below (by kernel_rfl) (by kernel_rfl) ?_
    repeat (first | go_big_quiet_skip | (go_big_quiet_want; go_big_quiet_op; first | go_big_quiet_on | (apply Exists.intro; refine ⟨fun _ => ?_, ?_⟩; (focus (first | fail)); go_big_quiet_on)))
    refine wpQuiet_nil ?_
    intro w1 hw1
    clear hq
    replace hw1 := quiet_ext hw1
    replace hN := hN.step hw1
    have hC := hN.2
    go_wp2
    go_roundg (gk - 1)
    case measure => omega
    case rel => exact ⟨k + 1, by omega, Hk.out, by go_num, hE.trans hN.1⟩
set_option maxRecDepth 100000 in
set_option maxHeartbeats 2000000 in
theorem containsChg_any (A : Option Addr) (c : Nat) (l : List Chg) (x : Chg) (w : World) (hA : Rd EChg w A l) (hmax : l.length <= 1000000) (hx : x ∈ l) :
 Calls Tryz.prog 23 #[.slice A l.length c, .agg x.arr] w fun e w' => e = .returned (.bool true) /\ Ext w w' := by
 have hi := fun w h => indexChg_any A c l x w h hmax hx
 obtain ⟨xo, xc, xs, xk, ⟨xsrc, xdst, xst, xen, xrate, xrng, xloss⟩⟩ := x
 unfold Chg.arr at hi ⊢
 dsimp only at hi ⊢
 obtain ⟨W1, hW1, hB1, hk1, hl1⟩ := box1 w #[.int .i64 xo, .int .i64 xc, .int .i64 xs, .int .i64 xk, .int .i64 xsrc, .int .i64 xdst, .int .i64 xst, .int .i64 xen, .int .i64 xrate, .int .i64 xrng, .int .i64 xloss] 63
 have c1 := hk1.cell
 have c2 := hk1.lt
 clear hx
 go_enter Tryz.func23, Tryz.ntmps23
 go_wp2_with fail
 clear hW1
 refine (hi _ (hA.ext hB1)).mono ?_
 rintro e w2 ⟨k, rfl, hk, hb2⟩
 have hd : decide ((0 : Int) <= (k : Int)) = true := decide_eq_true (by omega)
 go_wp2
 go_ret
 exact ⟨rfl, hB1.trans hb2⟩
theorem info_his : (Tryz.prog.info? 56).map (fun i => (i.zero, i.size, i.bytes)) = some (some (.agg #[.int .i64 0, .slice none 0 0]), 2, 32) := by kernel_rfl
set_option maxHeartbeats 1000000 in
theorem cloneHis_any (a : Addr) (c : Nat) (l : List Hs) (w : World) (hA : Rd EHs w (some a) l) (hmax : l.length <= 1000000) :
 Calls Tryz.prog 20 #[.slice (some a) l.length c] w fun e w' => ∃ v, e = .returned v /\ Owns EHs w' w.heap.size 56 v l /\ Ext w w' := by
 obtain ⟨i0, hi0, hz0, hz1, hz2⟩ := info_parts info_his
 have q22 : ∀ (w : World) (a : Option Addr) (n c n' c' : Nat), (binOp .eql 49 (.slice a n c) (.slice none n' c')).run Tryz.prog w = .ok (.bool a.isNone) w := fun w a n c n' c' => Lib.run_eql_slice_nil w _ _ a n c n' c' Tryz.underlying49
 go_enter Tryz.func20, Tryz.ntmps20
 go_wp2_with (at_builtin; refine wpList_cat rfl (.tmp 5) (.tmp 6) _ rfl w.heap.size 56 i0 _ 32 Tryz.underlying49 hi0 hz0 hz1 hz2 rfl (.slice (some ⟨w.heap.size, 0, none⟩) 0 0) rfl (Owns.made w w.heap.size _ (Nat.le_refl _)) c _ rfl rfl (hA.ext ((Ext.refl _).alloc _)) (by simp [maxLen]; omega) (by simp; omega) (by simp) ?_; intro v6 w6 hv6 hg6 hat6)
 go_ret
 exact ⟨_, rfl, hv6, ext_grown ((Ext.refl w).alloc _) (Owns.made (E := EHs) w w.heap.size _ (Nat.le_refl _)) (Nat.le_refl _) hg6⟩
end Go.Proofs.YtemkpimngbbpkaaGreat
