/- Replay windows: refuses, window. · Replay windows: Accept. -/
import Derived.BigRegion
import Derived.Test.YtemkpimngbbpkaaGreatTopR05
import Derived.Test.YtemkpimngbbpkaaGreatTopR09
import Derived.Test.YtemkpimngbbpkaaGreatTopR18
import Derived.Test.YtemkpimngbbpkaaGreatTopR25
import Derived.Test.YtemkpimngbbpkaaGreatTopR47
namespace Go.Proofs.YtemkpimngbbpkaaGreat
set_option linter.unusedVariables false
set_option linter.unusedSimpArgs false
set_option linter.unusedVariables false
set_option linter.unusedSimpArgs false
open Go.RowKit Go.Shelf
attribute [local go_sem] Oper.semAt_some

set_option maxHeartbeats 8000000 in
theorem refuses_any (W : Win) (n : Int) (A : Option Addr) (cc : Nat) (w : World) (hok : W.Ok) (hR : Rd EInt w A W.seen) :
    Calls Tryz.prog 52 #[.agg #[.int .i64 W.size, .int .i64 W.top, .slice A W.seen.length cc], .int .i64 n] w fun e w' => e = .returned (.bool (W.refB n)) ∧ Ext w w' := by
  have hlen := hok.len
  have s1 := hok.s1
  have s2 := hok.s2
  have t1 := hok.t1
  have t2 := hok.t2
  have HV := Lib.hid (show W.refB n = (W.seen.contains n || decide (n ≤ W.top - W.size)) by unfold Win.refB; congr 1; rw [List.contains_eq_mem])
  have f1 := fun w h => bsI_any A cc W.seen n w h (by omega) (hok.pw.imp (fun h => by omega))
  clear hok
  obtain ⟨v, hv⟩ : ∃ v, W.refB n = v := ⟨_, rfl⟩
  rw [hv] at HV ⊢
  clear hv
  obtain ⟨W1, hW1, hB1, hk1, hl1⟩ := box1 w #[.int .i64 W.size, .int .i64 W.top, .slice A W.seen.length cc] 32
  have c1 := hk1.cell
  have c2 := hk1.lt
  obtain ⟨size, top, seen⟩ := W
  dsimp only at *
  obtain ⟨is, his⟩ : ∃ is, seen.contains n = is := ⟨_, rfl⟩
  rw [his] at f1 HV
  clear his
  go_enter Tryz.func52, Tryz.ntmps52
  go_wp2_with fail
  clear hW1
  refine (f1 _ (hR.ext hB1)).mono ?_
  rintro e w2 ⟨⟨i, rfl⟩, hb2⟩
  have hk2 := hk1.ext hb2
  have c3 := hk2.cell
  have c4 := hk2.lt
  clear c1 c2
  cases is with
  | true =>
    go_wp2
    go_ret
    exact ⟨ret_bool (by rw [HV.out]; simp), hB1.trans hb2⟩
  | false =>
    by_cases h1 : n ≤ top - size
    · have HX := Lib.hid (show v = true by rw [HV.out, decide_eq_true h1]; rfl)
      go_wp2
      go_ret
      exact ⟨ret_bool (by rw [HV.out]; simp [h1]), hB1.trans hb2⟩
    · have HX := Lib.hid (show v = false by rw [HV.out, decide_eq_false h1]; rfl)
      go_wp2
      go_ret
      exact ⟨ret_bool (by rw [HV.out]; simp [h1]), hB1.trans hb2⟩

theorem win1_pred (g5 g2 : Nat) (size top : Int) (sl : Value) (w : World) (hb : (-1 ≤ top ∧ top ≤ 1152921504606846976) ∧ 1 ≤ size ∧ size ≤ 64) (h5 : Blk w g5 32 #[.int .i64 size, .int .i64 top, sl]) (h2 : Blk w g2 3 #[.int .i64 size]) :
    PredI w 139 #[.pointer (some ⟨g5, 0, none⟩), .pointer (some ⟨g2, 0, none⟩)] (fun m => decide (top - size < m)) := by
  refine ⟨enters_of Tryz.func139 (by kernel_rfl) rfl, fun x w1 hw => ?_⟩
  obtain ⟨⟨b1, b2⟩, b3, b4⟩ := hb
  have k5 := h5.ext hw
  have k2 := h2.ext hw
  have a1 := k5.cell
  have a2 := k5.lt
  have a3 := k2.cell
  have a4 := k2.lt
  show Calls Tryz.prog 139 #[_, _, _] w1 _
  go_enter Tryz.func139, Tryz.ntmps139
  go_wp2
  go_ret
  exact ⟨by first | rfl | simp, Ext.refl _⟩

set_option maxRecDepth 100000 in
set_option maxHeartbeats 16000000 in
theorem window_any (size top : Int) (A : Option Addr) (cc : Nat) (l S : List Int) (w : World) (hb : (-1 ≤ top ∧ top ≤ 1152921504606846976) ∧ 1 ≤ size ∧ size ≤ 64) (hR : Rd EInt w A l) (hl : 1 ≤ l.length ∧ l.length ≤ 1000) (hS : S = l.mergeSort fun x y => decide (x ≤ y)) (hp : S.Pairwise (· < ·)) (hlast : S.getLast? = some top) :
    Calls Tryz.prog 53 #[.int .i64 size, .slice A l.length cc] w fun e w' => ∃ A' c', e = .returned (.agg #[.int .i64 size, .int .i64 top, .slice A' (S.filter fun m => decide (top - size < m)).length c']) ∧ Owns EInt w' w.heap.size 3 (.slice A' (S.filter fun m => decide (top - size < m)).length c') (S.filter fun m => decide (top - size < m)) ∧ Ext w w' := by
  have hSl : S.length = l.length := by rw [hS, List.length_mergeSort]
  obtain ⟨hl1, hl2⟩ := hl
  have f1 := fun w h => cloneInt_any A cc l w h (by omega)
  have f2 := fun base u w h => sort_own base u l w h (by omega)
  rw [← hS] at f2
  clear hS
  obtain ⟨W1, hW1, hB1, hk1, hkl1⟩ := box1 w #[.int .i64 size] 3
  obtain ⟨W2, hW2, hB2, hk2, hkl2⟩ := box1 W1 #[.int .i64 0, .int .i64 0, .slice none 0 0] 32
  obtain ⟨V3, hV3, hV3e, hv3, hvl3⟩ := box1 W2 #[.int .i64 0, .int .i64 0, .slice none 0 0] 32
  obtain ⟨W3, hW3, hk3, hB3⟩ : ∃ W3, V3.setCells W2.heap.size 0 [.int .i64 size, .int .i64 (-1), .slice none 0 0] = W3 ∧ Blk W3 W2.heap.size 32 #[.int .i64 size, .int .i64 (-1), .slice none 0 0] ∧ Ext W2 W3 :=
    ⟨_, rfl, hv3.setCells_ [.int .i64 size, .int .i64 (-1), .slice none 0 0] 0, ext_setCells hV3e (Nat.le_refl _) 0 _⟩
  simp only [World.setCells, Nat.zero_add, Nat.reduceAdd] at hW3
  have b1 := (hk1.ext hB2).ext hB3
  have b2 := hk2.ext hB3
  have hE3 := (hB1.trans hB2).trans hB3
  have c1 := hk1.cell
  have c2 := hk1.lt
  have z1 : ((l.length : Int) == 0) = false := by rw [beq_eq_false_iff_ne]; omega
  have y1 := hB1.size
  have y2 := hB2.size
  have y3 := hB3.size
  have c1' := (hk1.ext hB2).cell
  have c2' := (hk1.ext hB2).lt
  have q1 := hv3.frozen
  have q2 := hv3.lt
  have q3 := hv3.cell
  go_enter Tryz.func53, Tryz.ntmps53
  go_wp2_with fail
  (try rw [hW3])
  clear hW1 hW2 hV3 hW3 c1 c2 c1' c2' q1 q2 q3
  refine (f1 _ (hR.ext hE3)).mono ?_
  rintro e w4 ⟨u4, rfl, ho4, hb4⟩
  obtain ⟨A4, c4, rfl, hR4⟩ := ho4.form
  go_wp2_with fail
  refine (f2 W3.heap.size _ _ ho4).mono ?_
  rintro e w5 ⟨rfl, ho5, hg5⟩
  have hx5 : Ext W3 w5 := ext_grown hb4 ho4 (Nat.le_refl _) hg5
  have hR5 := ho5.rd
  have k5 := hk3.ext hx5
  have k1 := b1.ext hx5
  have k2 := b2.ext hx5
  have hSl' : l.length = S.length := hSl.symm
  have hne : S ≠ [] := by intro e; rw [e] at hSl; simp at hSl; omega
  rw [List.getLast?_eq_some_getLast hne, List.getLast_eq_getElem] at hlast
  injection hlast with hlast
  obtain ⟨i, hi⟩ : ∃ i, S.length = i + 1 := ⟨S.length - 1, by omega⟩
  have h3 : S[i] = top := by rw [← hlast]; congr 1; omega
  obtain ⟨bb, oo, rfl, hbb, d0⟩ := hR5.int (show i < S.length by omega)
  rw [h3] at d0
  have hli : l.length = i + 1 := by omega
  have Hho := Lib.hid ho5
  have HS := Lib.hid hp
  have Hrd := Lib.hid hR5
  clear f1 f2 hR hR4 ho4 hg5 hbb hlast h3 hR5 ho5 hp hne hSl hSl'
  rw [hli]
  obtain ⟨w6, hw6, k56, k16, k26⟩ : ∃ w6, w5.setCell ⟨W2.heap.size, 1, none⟩ (.int .i64 top) = w6 ∧ Blk w6 W2.heap.size 32 #[.int .i64 size, .int .i64 top, .slice none 0 0] ∧ Blk w6 w.heap.size 3 #[.int .i64 size] ∧ Blk w6 W1.heap.size 32 #[.int .i64 0, .int .i64 0, .slice none 0 0] :=
    ⟨_, rfl, k5.set_ 1 _, k1.far (by show w.heap.size ≠ W2.heap.size; omega) _, k2.far (by show W1.heap.size ≠ W2.heap.size; omega) _⟩
  have ho6 : Owns EInt w6 W3.heap.size 3 (.slice (some ⟨bb, oo, none⟩) l.length c4) S := by rw [← hw6]; exact Hho.out.setZ k5 (by decide) 1 _
  have hx6 : Ext W2 w6 := by rw [← hw6]; exact (hB3.trans hx5).setCell (Nat.le_refl _) _
  have e1 := k5.cell
  have e2 := k5.lt
  have e3 := k5.frozen
  have f3 := compactI_asc (some ⟨bb, oo, none⟩) c4 S w6 ho6.rd (by omega) HS.out
  rw [hi] at f3
  go_wp2_with fail
  clear hw6 e1 e2 e3 d0
  refine f3.mono ?_
  clear f3
  rintro e w7 ⟨rfl, hb7⟩
  have hx7 := hx6.trans hb7
  have f4 := kept_any (some ⟨bb, oo, none⟩) c4 S 139 #[.pointer (some ⟨W2.heap.size, 0, none⟩), .pointer (some ⟨w.heap.size, 0, none⟩)] (fun m => decide (top - size < m)) w7 (ho6.rd.ext hb7) (by omega) (win1_pred W2.heap.size w.heap.size size top (.slice none 0 0) w7 hb (k56.ext hb7) (k16.ext hb7))
  rw [hi] at f4
  go_wp2_with fail
  refine f4.mono ?_
  clear f4
  rintro e w8 ⟨v8, rfl, ho8, hb8⟩
  have k58 := (k56.ext hb7).ext hb8
  have k28 := (k26.ext hb7).ext hb8
  have hx8 := hx7.trans hb8
  have z8 := hx8.size
  have z7 := hx7.size
  obtain ⟨A8, c8, rfl, hR8⟩ := ho8.form
  obtain ⟨w9, hw9, k59, k29, ho9, hx9⟩ : ∃ w9, w8.setCell ⟨W2.heap.size, 2, none⟩ (.slice A8 (S.filter fun m => decide (top - size < m)).length c8) = w9 ∧ Blk w9 W2.heap.size 32 #[.int .i64 size, .int .i64 top, .slice A8 (S.filter fun m => decide (top - size < m)).length c8] ∧ Blk w9 W1.heap.size 32 #[.int .i64 0, .int .i64 0, .slice none 0 0] ∧ Owns EInt w9 w7.heap.size 3 (.slice A8 (S.filter fun m => decide (top - size < m)).length c8) (S.filter fun m => decide (top - size < m)) ∧ Ext W1 w9 :=
    ⟨_, rfl, k58.set_ 2 _, k28.far (by show W1.heap.size ≠ W2.heap.size; omega) _, ho8.setZ k58 (by decide) 2 _, (hB2.trans hx8).setCell (by show W1.heap.size ≤ W2.heap.size; omega) _⟩
  obtain ⟨w10, hw10, k10, ho10, hx10⟩ : ∃ w10, w9.setCells W1.heap.size 0 [.int .i64 size, .int .i64 top, .slice A8 (S.filter fun m => decide (top - size < m)).length c8] = w10 ∧ Blk w10 W1.heap.size 32 #[.int .i64 size, .int .i64 top, .slice A8 (S.filter fun m => decide (top - size < m)).length c8] ∧ Owns EInt w10 w7.heap.size 3 (.slice A8 (S.filter fun m => decide (top - size < m)).length c8) (S.filter fun m => decide (top - size < m)) ∧ Ext w w10 :=
    ⟨_, rfl, k29.setCells_ [.int .i64 size, .int .i64 top, .slice A8 (S.filter fun m => decide (top - size < m)).length c8] 0, ((ho9.setZ k29 (by decide) 0 _).setZ (k29.set_ 0 _) (by decide) 1 _).setZ ((k29.set_ 0 _).set_ 1 _) (by decide) 2 _, ext_setCells (hB1.trans hx9) (by omega) 0 _⟩
  simp only [World.setCells, Nat.zero_add, Nat.reduceAdd] at hw10
  have e1 := k58.cell
  have e2 := k58.lt
  have e3 := k58.frozen
  have e4 := k59.cell
  have e5 := k59.lt
  have e6 := k29.cell
  have e7 := k29.lt
  have e8 := k29.frozen
  clear ho6 ho8 ho9 hR8 HS Hho Hrd
  go_wp2
  have e9 := k10.cell
  refine bodyPost_ret (v := .agg #[.int .i64 size, .int .i64 top, .slice A8 (S.filter fun m => decide (top - size < m)).length c8]) (by rw [results_cellR rfl]; simp [asAddr, Result.andThen, e9, go_sem]) rfl ?_
  exact ⟨A8, c8, rfl, ho10.mono (by omega), hx10⟩
end Go.Proofs.YtemkpimngbbpkaaGreat

namespace Go.Proofs.YtemkpimngbbpkaaGreat
set_option linter.unusedVariables false
set_option linter.unusedSimpArgs false
set_option linter.unusedVariables false
set_option linter.unusedSimpArgs false
open Go.RowKit Go.Shelf
attribute [local go_sem] Oper.semAt_some

set_option maxRecDepth 100000 in
set_option maxHeartbeats 16000000 in
theorem accept_any (W : Win) (n : Int) (A : Option Addr) (cc : Nat) (w : World) (hok : W.Ok) (hR : Rd EInt w A W.seen) (hn : 0 ≤ n ∧ n ≤ 1152921504606846976) :
    Calls Tryz.prog 14 #[.agg #[.int .i64 W.size, .int .i64 W.top, .slice A W.seen.length cc], .int .i64 n] w fun e w' => Ext w w' ∧ ((W.refB n = true ∧ e = .returned (.tuple #[.agg #[.int .i64 0, .int .i64 0, .slice none 0 0], .int .i64 23])) ∨ (W.refB n = false ∧ ∃ A' c', e = .returned (.tuple #[.agg #[.int .i64 W.size, .int .i64 (max W.top n), .slice A' (W.acc n).seen.length c'], .int .i64 0]) ∧ Owns EInt w' w.heap.size 3 (.slice A' (W.acc n).seen.length c') (W.acc n).seen)) := by
  obtain ⟨i0, hi0, hz0, hz1, hz2⟩ := info_parts info_intD
  have hlen := hok.len
  have s1 := hok.s1
  have s2 := hok.s2
  have t1 := hok.t1
  have t2 := hok.t2
  obtain ⟨n0, n1⟩ := hn
  have f1 := fun w h => rpCheck_ok W A cc w hok h
  have f2 := fun w h => refuses_any W n A cc w hok h
  have Hok := Lib.hid hok
  have fcl := fun w h => cloneInt_any A cc W.seen w h (by omega)
  have hwin := fun (hr : W.refB n = false) A' c' (w : World) (h : Rd EInt w A' (W.seen ++ [n])) => window_any W.size (max W.top n) A' c' (W.seen ++ [n]) (W.srt n) w ⟨⟨by omega, by omega⟩, s1, s2⟩ h ⟨by rw [List.length_append, List.length_singleton]; omega, by rw [List.length_append, List.length_singleton]; omega⟩ rfl
    (srt_pw Hok.out (by simp only [Win.refB, Bool.or_eq_false_iff, decide_eq_false_iff_not] at hr; exact hr.1)) (srt_last Hok.out (by simp only [Win.refB, Bool.or_eq_false_iff, decide_eq_false_iff_not] at hr; exact hr.1) n0)
  obtain ⟨v, hv⟩ : ∃ v, W.refB n = v := ⟨_, rfl⟩
  have HV := Lib.hid hv
  rw [hv] at f2
  obtain ⟨L, hL⟩ : ∃ L, (W.acc n).seen = L := ⟨_, rfl⟩
  have HLL := Lib.hid hL
  have hwin2 : v = false → ∀ A' c' (w : World), Rd EInt w A' (W.seen ++ [n]) → Calls Tryz.prog 53 #[.int .i64 W.size, .slice A' (W.seen ++ [n]).length c'] w fun e w' => ∃ A'' c'', e = .returned (.agg #[.int .i64 W.size, .int .i64 (max W.top n), .slice A'' L.length c'']) ∧ Owns EInt w' w.heap.size 3 (.slice A'' L.length c'') L ∧ Ext w w' := fun h A' c' w hr => by
    have h9 := hwin (hv.trans h) A' c' w hr
    have hL' : (W.srt n).filter (fun m => decide (max W.top n - W.size < m)) = L := hL
    rw [hL'] at h9
    exact h9
  clear hwin hL hv hok
  obtain ⟨mt, hmt⟩ : ∃ mt, max W.top n = mt := ⟨_, rfl⟩
  rw [hmt] at hwin2
  have HMT := Lib.hid hmt
  clear hmt
  obtain ⟨size, top, seen⟩ := W
  dsimp only at *
  obtain ⟨W1, hW1, hB1, hk1, hkl1⟩ := box1 w #[.int .i64 size, .int .i64 top, .slice A seen.length cc] 32
  obtain ⟨W2, hW2, hB2, hk2, hkl2⟩ := box1 W1 #[.int .i64 0, .int .i64 0, .slice none 0 0] 32
  have hE2 := hB1.trans hB2
  have k1 := hk1.ext hB2
  have c1 := k1.cell
  have c2 := k1.lt
  have y1 := hB1.size
  have y2 := hB2.size
  go_enter Tryz.func14, Tryz.ntmps14
  go_wp2_with fail
  clear hW1 hW2
  refine (f1 _ (hR.ext hE2)).mono ?_
  clear f1
  rintro e w3 ⟨rfl, hb3⟩
  have k13 := k1.ext hb3
  have k23 := hk2.ext hb3
  have hE3 := hE2.trans hb3
  clear c1 c2
  have c1 := k13.cell
  have c2 := k13.lt
  go_wp2_with fail
  refine (f2 _ (hR.ext hE3)).mono ?_
  clear f2
  rintro e w4 ⟨rfl, hb4⟩
  have k14 := k13.ext hb4
  have k44 := k23.ext hb4
  have hE4 := hE3.trans hb4
  have y4 := (hb3.trans hb4).size
  clear c1 c2 k13 k23 k1 hk1 hk2
  cases v with
  | true =>
    have a1 := k44.cell
    have a2 := k44.lt
    have a3 := k44.frozen
    obtain ⟨w5, hw5, k5, hx5⟩ : ∃ w5, w4.setCells W1.heap.size 0 [.int .i64 0, .int .i64 0, .slice none 0 0] = w5 ∧ Blk w5 W1.heap.size 32 #[.int .i64 0, .int .i64 0, .slice none 0 0] ∧ Ext w w5 :=
      ⟨_, rfl, k44.setCells_ [.int .i64 0, .int .i64 0, .slice none 0 0] 0, ext_setCells hE4 (by omega) 0 _⟩
    simp only [World.setCells, Nat.zero_add, Nat.reduceAdd] at hw5
    go_wp2
    (try rw [hw5])
    have a9 := k5.cell
    refine bodyPost_ret (v := .tuple #[.agg #[.int .i64 0, .int .i64 0, .slice none 0 0], .int .i64 23]) (by rw [results_cell_tmpR rfl]; simp [asAddr, Result.andThen, a9, go_sem]) rfl ?_
    exact ⟨hx5, .inl ⟨HV.out, rfl⟩⟩
  | false =>
    have fwin := hwin2 (by trivial)
    clear hwin2
    go_wp2_with fail
    have hR4 := hR.ext hE4
    have c1 := k14.cell
    have c2 := k14.lt
    have near : ∀ w', Ext w4 w' → Ext w4 w' ∧ ∀ b o, b < w4.heap.size → w'.cell? ⟨b, o, none⟩ = w4.cell? ⟨b, o, none⟩ := fun w' h => ⟨h, fun b o hb => h.cell hb⟩
    refine wp_region_P (fun k => k == 9) (fun w' => Ext w4 w' ∧ ∀ b o, b < w4.heap.size → w'.cell? ⟨b, o, none⟩ = w4.cell? ⟨b, o, none⟩) (by kernel_rfl) (near _ (Ext.refl w4).drew) (fun _ => ?_)
    refine wpAnyP_takeT (i := 0) (v := ?_) rfl (by kernel_rfl) (by kernel_rfl) (by kernel_rfl) (fun _ _ _ h => h) (Or.inl ⟨by rfl, ?_⟩) ?_
    rotate_left
    · intro w'
      go_simp
      first | done | with_reducible rfl
    try simp only [Act.put, List.setIfInBounds_toArray, List.set_cons_zero, List.set_cons_succ]
    refine wpAnyP_take (i := 1) (v := ?_) rfl (by kernel_rfl) (by kernel_rfl) (by kernel_rfl) (by kernel_rfl) (fun _ _ _ h => h) (Or.inl ⟨by rfl, ?_⟩) (by assumption) ?_
    rotate_left
    · intro w' hw'
      (try have hC := hw'.2)
      (try have hC9 := hw'.1)
      go_simp
      first | done | with_reducible rfl
    try simp only [Act.put, List.setIfInBounds_toArray, List.set_cons_zero, List.set_cons_succ]
    refine wpAnyP_takeT (i := 2) (v := ?_) rfl (by kernel_rfl) (by kernel_rfl) (by kernel_rfl) (fun _ _ _ h => h) (Or.inl ⟨by rfl, ?_⟩) ?_
    rotate_left
    · intro w'
      go_simp
      first | done | with_reducible rfl
    try simp only [Act.put, List.setIfInBounds_toArray, List.set_cons_zero, List.set_cons_succ]
    refine wpAnyP_take (i := 3) (v := ?_) rfl (by kernel_rfl) (by kernel_rfl) (by kernel_rfl) (by kernel_rfl) (fun _ _ _ h => h) (Or.inl ⟨by rfl, ?_⟩) (by assumption) ?_
    rotate_left
    · intro w' hw'
      (try have hC := hw'.2)
      (try have hC9 := hw'.1)
      go_simp
      first | done | with_reducible rfl
    try simp only [Act.put, List.setIfInBounds_toArray, List.set_cons_zero, List.set_cons_succ]
    refine wpAnyP_takeT (i := 5) (v := ?_) rfl (by kernel_rfl) (by kernel_rfl) (by kernel_rfl) (fun _ _ _ h => h) (Or.inl ⟨by rfl, ?_⟩) ?_
    rotate_left
    · intro w'
      go_simp
      first | done | with_reducible rfl
    try simp only [Act.put, List.setIfInBounds_toArray, List.set_cons_zero, List.set_cons_succ]
    clear c1 c2
    refine wpAnyP_ready (rs := [4, 6]) (by kernel_rfl) (by simp) ?_
    refine AllReadyP.cons rfl (fun K hK => ?_) (AllReadyP.cons rfl (fun K hK => ?_) AllReadyP.nil)
    · go_simp
      refine (fcl w4.drew (hR4.ext (Ext.refl w4).drew)).mono ?_
      rintro e w5 ⟨u5, rfl, ho5, hb5⟩
      have hx5 := (Ext.refl w4).drew.trans hb5
      replace ho5 : Owns EInt w5 w4.heap.size 3 u5 seen := ho5
      obtain ⟨A5, c5, rfl, hR5⟩ := ho5.form
      have hz5 := hx5.size
      refine hK.out _ _ (fun _ _ => near _ hx5) ?_
      clear hK K
      refine wpAnyP_ready (rs := [6]) (by kernel_rfl) (by simp) ?_
      refine AllReadyP.cons rfl (fun K hK => ?_) AllReadyP.nil
      go_simp
      refine hK.out _ _ (fun _ _ => near _ (hx5.alloc _)) ?_
      clear hK K
      refine wpAnyP_ready (rs := [7]) (by kernel_rfl) (by simp) ?_
      refine AllReadyP.cons rfl (fun K hK => ?_) AllReadyP.nil
      refine step_push (y := n) (by rfl) (.tmp 25) (.tmp 27) _ (by rfl) w4.heap.size 3 i0 _ 8 Tryz.underlying30 hi0 hz0 hz1 hz2 (by rfl) (.slice A5 seen.length c5) (by rfl) (ho5.ext ((Ext.refl _).alloc _)) w5.heap.size (by rfl) (Blk.new w5 _ _) (by simp only [maxLen]; omega) (by omega) (by first | omega | (simp; omega)) ?_
      intro v6 w6 hv6 hg6 hat6
      have hx6 := ext_grown (hx5.alloc _) (ho5.ext ((Ext.refl _).alloc _)) (Nat.le_refl _) hg6
      obtain ⟨A6, c6, rfl, hR6⟩ := hv6.form
      refine hK.out _ _ (fun _ _ => near _ hx6) ?_
      clear hK K
      refine wpAnyP_ready (rs := [8]) (by kernel_rfl) (by simp) ?_
      refine AllReadyP.cons rfl (fun K hK => ?_) AllReadyP.nil
      go_simp
      have f7 := fwin A6 c6 w6 hR6
      have hln : (seen ++ [n]).length = seen.length + 1 := by rw [List.length_append, List.length_singleton]
      rw [hln] at f7
      refine Calls.mono (by first | exact f7 | simpa using f7) ?_
      rintro e w7 ⟨A7, c7, rfl, ho7, hb7⟩
      have hx7 := hx6.trans hb7
      refine hK.out _ _ (fun _ _ => near _ hx7) ?_
      clear hK K
      have k7 := k44.ext hx7
      have a1 := k7.cell
      have a2 := k7.lt
      have a3 := k7.frozen
      obtain ⟨w8, hw8, k8, ho8, hx8⟩ : ∃ w8, w7.setCells W1.heap.size 0 [.int .i64 size, .int .i64 mt, .slice A7 L.length c7] = w8 ∧ Blk w8 W1.heap.size 32 #[.int .i64 size, .int .i64 mt, .slice A7 L.length c7] ∧ Owns EInt w8 w6.heap.size 3 (.slice A7 L.length c7) L ∧ Ext w w8 :=
        ⟨_, rfl, k7.setCells_ [.int .i64 size, .int .i64 mt, .slice A7 L.length c7] 0, ((ho7.setZ k7 (by decide) 0 _).setZ (k7.set_ 0 _) (by decide) 1 _).setZ ((k7.set_ 0 _).set_ 1 _) (by decide) 2 _, ext_setCells (hE4.trans hx7) (by omega) 0 _⟩
      simp only [World.setCells, Nat.zero_add, Nat.reduceAdd] at hw8
      refine wpAnyP_ready (rs := [9]) (by kernel_rfl) (by simp) ?_
      refine AllReadyP.cons rfl (fun K hK => ?_) AllReadyP.nil
      go_simp
      refine hK.out _ _ (fun h => absurd h (by decide)) ?_
      clear hK K
      (try rw [hw8])
      refine wpAnyP_takeT (i := 10) (v := ?_) rfl (by kernel_rfl) (by kernel_rfl) (by kernel_rfl) (fun _ _ _ h => h) (Or.inl ⟨by rfl, ?_⟩) ?_
      rotate_left
      · intro w'
        go_simp
        first | done | with_reducible rfl
      try simp only [Act.put, List.setIfInBounds_toArray, List.set_cons_zero, List.set_cons_succ]
      (try simp only [List.getElem_toArray, List.getElem_cons_succ, List.getElem_cons_zero, Act.put, List.setIfInBounds_toArray, List.set_cons_zero, List.set_cons_succ])
      refine wpAnyP_done (by kernel_rfl) ?_ _
      go_wp2
      have a9 := k8.cell
      refine bodyPost_ret (v := .tuple #[.agg #[.int .i64 size, .int .i64 mt, .slice A7 L.length c7], .int .i64 0]) (by rw [results_cell_tmpR rfl]; simp [asAddr, Result.andThen, a9, go_sem]) rfl ?_
      exact ⟨hx8, .inr ⟨HV.out, A7, c7, by rw [HMT.out, HLL.out], by rw [HLL.out]; exact ho8.mono (by have := hx6.size; omega)⟩⟩
    · obtain ⟨W9, hW9, hB9, hk9, hl9⟩ := box1 w4.drew #[.int .i64 n] 3
      have hx9 := (Ext.refl w4).drew.trans hB9
      go_simp
      refine hK.out _ _ (fun _ _ => near _ hx9) ?_
      clear hK K hW9
      refine wpAnyP_ready (rs := [4]) (by kernel_rfl) (by simp) ?_
      refine AllReadyP.cons rfl (fun K hK => ?_) AllReadyP.nil
      go_simp
      refine (fcl W9 (hR4.ext hx9)).mono ?_
      rintro e w5 ⟨u5, rfl, ho5, hb5⟩
      have hx5 := hx9.trans hb5
      have hz9 := hx9.size
      replace ho5 : Owns EInt w5 w4.heap.size 3 u5 seen := ho5.mono hz9
      obtain ⟨A5, c5, rfl, hR5⟩ := ho5.form
      have hz5 := hx5.size
      have hk95 := hk9.ext hb5
      refine hK.out _ _ (fun _ _ => near _ hx5) ?_
      clear hK K
      refine wpAnyP_ready (rs := [7]) (by kernel_rfl) (by simp) ?_
      refine AllReadyP.cons rfl (fun K hK => ?_) AllReadyP.nil
      refine step_push (y := n) (by rfl) (.tmp 25) (.tmp 27) _ (by rfl) w4.heap.size 3 i0 _ 8 Tryz.underlying30 hi0 hz0 hz1 hz2 (by rfl) (.slice A5 seen.length c5) (by rfl) ho5 w4.heap.size (by rfl) hk95 (by simp only [maxLen]; omega) (by omega) (by first | omega | (simp; omega)) ?_
      intro v6 w6 hv6 hg6 hat6
      have hx6 := ext_grown hx5 ho5 (Nat.le_refl _) hg6
      obtain ⟨A6, c6, rfl, hR6⟩ := hv6.form
      refine hK.out _ _ (fun _ _ => near _ hx6) ?_
      clear hK K
      refine wpAnyP_ready (rs := [8]) (by kernel_rfl) (by simp) ?_
      refine AllReadyP.cons rfl (fun K hK => ?_) AllReadyP.nil
      go_simp
      have f7 := fwin A6 c6 w6 hR6
      have hln : (seen ++ [n]).length = seen.length + 1 := by rw [List.length_append, List.length_singleton]
      rw [hln] at f7
      refine Calls.mono (by first | exact f7 | simpa using f7) ?_
      rintro e w7 ⟨A7, c7, rfl, ho7, hb7⟩
      have hx7 := hx6.trans hb7
      refine hK.out _ _ (fun _ _ => near _ hx7) ?_
      clear hK K
      have k7 := k44.ext hx7
      have a1 := k7.cell
      have a2 := k7.lt
      have a3 := k7.frozen
      obtain ⟨w8, hw8, k8, ho8, hx8⟩ : ∃ w8, w7.setCells W1.heap.size 0 [.int .i64 size, .int .i64 mt, .slice A7 L.length c7] = w8 ∧ Blk w8 W1.heap.size 32 #[.int .i64 size, .int .i64 mt, .slice A7 L.length c7] ∧ Owns EInt w8 w6.heap.size 3 (.slice A7 L.length c7) L ∧ Ext w w8 :=
        ⟨_, rfl, k7.setCells_ [.int .i64 size, .int .i64 mt, .slice A7 L.length c7] 0, ((ho7.setZ k7 (by decide) 0 _).setZ (k7.set_ 0 _) (by decide) 1 _).setZ ((k7.set_ 0 _).set_ 1 _) (by decide) 2 _, ext_setCells (hE4.trans hx7) (by omega) 0 _⟩
      simp only [World.setCells, Nat.zero_add, Nat.reduceAdd] at hw8
      refine wpAnyP_ready (rs := [9]) (by kernel_rfl) (by simp) ?_
      refine AllReadyP.cons rfl (fun K hK => ?_) AllReadyP.nil
      go_simp
      refine hK.out _ _ (fun h => absurd h (by decide)) ?_
      clear hK K
      (try rw [hw8])
      refine wpAnyP_takeT (i := 10) (v := ?_) rfl (by kernel_rfl) (by kernel_rfl) (by kernel_rfl) (fun _ _ _ h => h) (Or.inl ⟨by rfl, ?_⟩) ?_
      rotate_left
      · intro w'
        go_simp
        first | done | with_reducible rfl
      try simp only [Act.put, List.setIfInBounds_toArray, List.set_cons_zero, List.set_cons_succ]
      (try simp only [List.getElem_toArray, List.getElem_cons_succ, List.getElem_cons_zero, Act.put, List.setIfInBounds_toArray, List.set_cons_zero, List.set_cons_succ])
      refine wpAnyP_done (by kernel_rfl) ?_ _
      go_wp2
      have a9 := k8.cell
      refine bodyPost_ret (v := .tuple #[.agg #[.int .i64 size, .int .i64 mt, .slice A7 L.length c7], .int .i64 0]) (by rw [results_cell_tmpR rfl]; simp [asAddr, Result.andThen, a9, go_sem]) rfl ?_
      exact ⟨hx8, .inr ⟨HV.out, A7, c7, by rw [HMT.out, HLL.out], by rw [HLL.out]; exact ho8.mono (by have := hx6.size; omega)⟩⟩
end Go.Proofs.YtemkpimngbbpkaaGreat
