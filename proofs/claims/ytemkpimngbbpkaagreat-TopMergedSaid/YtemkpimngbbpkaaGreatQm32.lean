/- Update: Put. -/
import Derived.Test.YtemkpimngbbpkaaGreatQm31
namespace Go.Proofs.YtemkpimngbbpkaaGreat
set_option linter.unusedVariables false
set_option linter.unusedSimpArgs false
set_option linter.unusedVariables false
set_option linter.unusedSimpArgs false
open Go.RowKit Go.Shelf Go.Sort
attribute [local go_sem] Oper.semAt_some

set_option maxRecDepth 100000 in
set_option maxHeartbeats 16000000 in
theorem uPut_any (n : Int) (A : Option Addr) (cc : Nat) (l : List Chg) (o : Int) (c : Con) (w : World) (hA : Rd EChg w A l) (hl : l.length < 1000) (hb : ∀ y ∈ l, ChB y) (h0 : hChk n l = 0) (h1 : (nextC l o 1 c).ok n = true) :
    Calls Tryz.prog 41 #[.agg #[.int .i64 n, .slice A l.length cc], .int .i64 o, c.val] w fun e w' => ∃ u ts, e = .returned (.tuple #[.agg #[.int .i64 n, u], .int .i64 0]) ∧ ts.Perm (l ++ [nextC l o 1 c]) ∧ ts.Pairwise (fun x y => ltOf orgC y x = false) ∧ Owns EChg w' w.heap.size 63 u ts ∧ Ext w w' := by
  have g0 := fun w h => hCheck_any n A cc l w h
  rw [h0] at g0
  have g1 := fun w h => uNext_any n A cc l o 1 c w h hb (by omega)
  obtain ⟨y, hy⟩ : ∃ y, nextC l o 1 c = y := ⟨_, rfl⟩
  rw [hy] at g1 h1 ⊢
  have g2 := fun w => vChg_any n y w
  rw [h1] at g2
  have g3 := fun w h => with_any n A cc l y w h hl
  clear hy hb h0 h1
  unfold Chg.arr at g1 g2 g3
  obtain ⟨src, dst, st, en, rate, rng, loss⟩ := c
  unfold Con.val at g1 ⊢
  dsimp only at g1 ⊢
  obtain ⟨W1, hW1, hB1, hk1, hl1⟩ := box1 w #[.int .i64 n, .slice A l.length cc] 56
  obtain ⟨W2, hW2, hB2, hk2, hl2⟩ := box1 W1 #[.int .i64 src, .int .i64 dst, .int .i64 st, .int .i64 en, .int .i64 rate, .int .i64 rng, .int .i64 loss] 61
  obtain ⟨W3, hW3, hB3, hk3, hl3⟩ := box1 W2 #[.int .i64 0, .slice none 0 0] 56
  have kh := (hk1.ext hB2).ext hB3
  have kc := hk2.ext hB3
  have e1 := kh.cell
  have e2 := kh.lt
  have hE3 := (hB1.trans hB2).trans hB3
  have y1 := hB1.size
  have y2 := hB2.size
  have y3 := hB3.size
  go_enter Tryz.func41, Tryz.ntmps41
  go_wp2_with fail
  clear hW1 hW2 hW3
  refine (g0 _ (hA.ext hE3)).mono ?_
  rintro e w4 ⟨rfl, hb4⟩
  have hE4 := hE3.trans hb4
  have kh4 := kh.ext hb4
  have kc4 := kc.ext hb4
  have a1 := kh4.cell
  have a2 := kh4.lt
  have a3 := kc4.cell
  have a4 := kc4.lt
  clear e1 e2
  go_wp2_with fail
  refine (g1 _ (hA.ext hE4)).mono ?_
  rintro e w5 ⟨rfl, hb5⟩
  obtain ⟨W6, hW6, hB6, hk6, hl6⟩ := box1 w5 #[.int .i64 y.org, .int .i64 y.cnt, .int .i64 y.stp, .int .i64 y.kind, .int .i64 y.con.src, .int .i64 y.con.dst, .int .i64 y.con.st, .int .i64 y.con.en, .int .i64 y.con.rate, .int .i64 y.con.rng, .int .i64 y.con.loss] 63
  have hE6 := (hE4.trans hb5).trans hB6
  have kh6 := (kh4.ext hb5).ext hB6
  have b1 := kh6.cell
  have b2 := kh6.lt
  have b3 := hk6.cell
  clear a1 a2 a3 a4
  go_wp2_with fail
  clear hW6
  refine (g2 _).mono ?_
  rintro e w7 ⟨rfl, hb7⟩
  have hE7 := hE6.trans hb7
  have kh7 := kh6.ext hb7
  have kx7 := hk6.ext hb7
  have c1 := kh7.cell
  have c2 := kh7.lt
  have c3 := kx7.cell
  have c4 := kx7.lt
  clear b1 b2 b3
  go_wp2_with fail
  refine (g3 _ (hA.ext hE7)).mono ?_
  rintro e w8 ⟨u, ts, rfl, hp, hs, ho8, hb8⟩
  have hE8 := hE7.trans hb8
  have kz8 := ((((hk3.ext hb4).ext hb5).ext hB6).ext hb7).ext hb8
  have f1 := kz8.cell
  have f2 := kz8.lt
  have f3 := kz8.frozen
  have z7 := hE7.size
  have z8 := hb4.size
  have z9 := hb5.size
  have z10 := hB6.size
  have z11 := hb7.size
  obtain ⟨A8, c8, rfl, hR8⟩ := ho8.form
  obtain ⟨w9, hw9, hz9, hgr, hE9⟩ : ∃ w9, (w8.setCell ⟨W2.heap.size, 0, none⟩ (.int .i64 n)).setCell ⟨W2.heap.size, 1, none⟩ (.slice A8 ts.length c8) = w9 ∧ Blk w9 W2.heap.size 56 #[.int .i64 n, .slice A8 ts.length c8] ∧ w8.grownBy w9 (some W2.heap.size) ∧ Ext w w9 :=
    ⟨_, rfl, (kz8.set_ 0 _).set_ 1 _, grown_setCell (grown_setCell (World.grownBy.refl w8 _) _ _) _ _, (hE8.setCell (by dsimp only; omega) _).setCell (by dsimp only; omega) _⟩
  have ho9 := ho8.kept hgr (fun g hgg e' => by injection e' with e'; have := (ho8.block hgg).1; omega)
  clear c1 c2 c3 c4
  go_wp2
  (try rw [hw9])
  have hc9 := hz9.cell
  refine bodyPost_ret (v := .tuple #[.agg #[.int .i64 n, .slice A8 ts.length c8], .int .i64 0]) (by rw [results_cell_tmp rfl]; simp [asAddr, Result.andThen, hc9, go_sem]) rfl ?_
  exact ⟨_, ts, rfl, hp, hs, ho9.mono (by omega), hE9⟩
end Go.Proofs.YtemkpimngbbpkaaGreat
