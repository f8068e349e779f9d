/- Update: New, next. -/
import Derived.Laws.ResultCell
import Derived.Test.YtemkpimngbbpkaaGreatQt11
namespace Go.Proofs.YtemkpimngbbpkaaGreat
set_option linter.unusedVariables false
set_option linter.unusedSimpArgs false
open Go.RowKit Go.Shelf
attribute [local go_sem] Oper.semAt_some
theorem uNew_any (n : Int) (w : World) (h : 1 <= n /\ n <= 16) :
 Calls Tryz.prog 40 #[.int .i64 n] w fun e w' => e = .returned (.tuple #[.agg #[.int .i64 n, .slice none 0 0], .int .i64 0]) /\ Ext w w' := by
 obtain ⟨W1, hW1, hB1, hk1, hl1⟩ := box1 w #[.int .i64 0, .slice none 0 0] 56
 have c1 := hk1.cell
 have c3 := hk1.frozen
 obtain ⟨h1, h2⟩ := h
 go_enter Tryz.func40, Tryz.ntmps40
 go_wp2
 clear hW1
 obtain ⟨w7, hw7, hz7, hE7⟩ : ∃ w7, W1.setCells w.heap.size 0 [.int .i64 n, .slice none 0 0] = w7 /\ Blk w7 w.heap.size 56 #[.int .i64 n, .slice none 0 0] /\ Ext w w7 :=
  ⟨_, rfl, hk1.setCells_ [.int .i64 n, .slice none 0 0] 0, ext_setCells hB1 (Nat.le_refl _) 0 _⟩
 simp only [World.setCells, Nat.zero_add, Nat.reduceAdd] at hw7
 rw [hw7]
 have hc7 := hz7.cell
 refine bodyPost_ret (v := .tuple #[.agg #[.int .i64 n, .slice none 0 0], .int .i64 0]) (by rw [results_cell_tmp rfl]; simp [asAddr, Result.andThen, hc7, go_sem]) rfl ?_
 exact ⟨rfl, hE7⟩
theorem nxt_take {l : List Chg} {k : Nat} (h : k < l.length) (x : Chg) : (l.take (k + 1)).foldl nxt x = nxt ((l.take k).foldl nxt x) l[k] := by
 rw [<- List.take_append_getElem h, List.foldl_append]
 rfl
theorem arrSets11 (v0 v1 v2 v3 v4 v5 v6 v7 v8 v9 v10 : Value) : arrSets #[.int .i64 0, .int .i64 0, .int .i64 0, .int .i64 0, .int .i64 0, .int .i64 0, .int .i64 0, .int .i64 0, .int .i64 0, .int .i64 0, .int .i64 0] 0 [v0, v1, v2, v3, v4, v5, v6, v7, v8, v9, v10] = #[v0, v1, v2, v3, v4, v5, v6, v7, v8, v9, v10] := by
 simp [arrSets]
theorem results_cellu {fn : Func} {p : Tmp} {ty : TypeId} (h : fn.results = #[.cell p ty]) (tmps : Array Value) (P : Program) (w : World) :
 (results fn tmps).run P w = ((asAddr (tmps.getD p undef)).run P w).andThen fun a w₁ => (loadVar ty a).run P w₁ := by
 simp only [results, h]
 simp [Sem.run_bind, Result.andThen]
def ChB (y : Chg) : Prop := (0 <= y.stp /\ y.stp <= 1099511627776) /\ (0 <= y.cnt /\ y.cnt <= 1000000)
set_option maxRecDepth 100000 in
set_option maxHeartbeats 16000000 in
theorem uNext_any (n : Int) (A : Option Addr) (cc : Nat) (l : List Chg) (o kind : Int) (c : Con) (w : World) (hR : Rd EChg w A l) (hb : ∀ y ∈ l, ChB y) (hl : l.length <= 1000) :
 Calls Tryz.prog 118 #[.agg #[.int .i64 n, .slice A l.length cc], .int .i64 o, .int .i64 kind, c.val] w fun e w' => e = .returned (.agg (nextC l o kind c).arr) /\ Ext w w' := by
 have HF := Lib.hid (show nextC l o kind c = l.foldl nxt ⟨o, 1, 1, kind, c⟩ from rfl)
 have hb' := Lib.hid hb
 clear hb
 obtain ⟨src, dst, st, en, rate, rng, loss⟩ := c
 unfold Con.val
 dsimp only
 obtain ⟨W1, hW1, hB1, hk1, hl1⟩ := box1 w #[.int .i64 n, .slice A l.length cc] 56
 obtain ⟨W2, hW2, hB2, hk2, hl2⟩ := box1 W1 #[.int .i64 src, .int .i64 dst, .int .i64 st, .int .i64 en, .int .i64 rate, .int .i64 rng, .int .i64 loss] 61
 have c2 := hk2.cell
 obtain ⟨W3, hW3, hB3, hk3, hl3⟩ := box1 W2 #[.int .i64 0, .int .i64 0, .int .i64 0, .int .i64 0, .int .i64 0, .int .i64 0, .int .i64 0, .int .i64 0, .int .i64 0, .int .i64 0, .int .i64 0] 63
 have kc3 := hk2.ext hB3
 have c3 := kc3.cell
 have c4 := kc3.lt
 obtain ⟨W4, hW4, hB4, hk4, hl4⟩ := box1 W3 #[.int .i64 o, .int .i64 1, .int .i64 1, .int .i64 kind, .int .i64 src, .int .i64 dst, .int .i64 st, .int .i64 en, .int .i64 rate, .int .i64 rng, .int .i64 loss] 63
 have kh4 := ((hk1.ext hB2).ext hB3).ext hB4
 have e1 := kh4.cell
 have e2 := kh4.lt
 have y1 := hB1.size
 have y2 := hB2.size
 have y3 := hB3.size
 have hE4 := (hB1.trans hB2).trans (hB3.trans hB4)
 have kz4 := hk3.ext hB4
 go_enter Tryz.func118, Tryz.ntmps118
 go_wp2_with fail
 clear hW1 hW2 hW3 hW4 c2 c3 c4
 go_loopg [19] l.length (fun m v wr => ∃ (k : Nat) (x : Chg), k + m = l.length /\ v = .int .i64 k /\ Hid (x = (l.take k).foldl nxt ⟨o, 1, 1, kind, ⟨src, dst, st, en, rate, rng, loss⟩⟩) /\ Hid (x.org = o) /\ Hid ((0 <= x.stp /\ x.stp <= 1099511627777) /\ (0 <= x.cnt /\ x.cnt <= 1000001)) /\ Blk wr W3.heap.size 63 x.arr /\ Ext W3 wr)
 case atStart => exact ⟨0, ⟨o, 1, 1, kind, ⟨src, dst, st, en, rate, rng, loss⟩⟩, by omega, by go_num, Lib.hid rfl, Lib.hid rfl, Lib.hid ⟨⟨by dsimp only; omega, by dsimp only; omega⟩, by dsimp only; omega, by dsimp only; omega⟩, hk4, hB4⟩
 case round =>
  obtain ⟨k, x, hkn, rfl, hx, hxo, hxb, kx, hE⟩ := hrel
  have Hkn := Lib.hid hkn
  clear hkn
  have hsz := hE.size
  have l4 := kx.lt
  by_cases hlt : k < l.length
  ·obtain ⟨b, o', rfl, hb, a0, a1, a2, a3, a4, a5, a6, a7, a8, a9, a10⟩ := ((((hR.ext hB1).ext hB2).ext hB3).ext hE).chg hlt
   have hyb := hb'.out _ (List.getElem_mem hlt)
   have hst := nxt_take hlt ⟨o, 1, 1, kind, ⟨src, dst, st, en, rate, rng, loss⟩⟩
   rw [<- hx.out] at hst
   obtain ⟨y, hy⟩ : ∃ y, l[k] = y := ⟨_, rfl⟩
   rw [hy] at a0 a1 a2 a3 a4 a5 a6 a7 a8 a9 a10 hyb hst
   have HST := Lib.hid hst
   obtain ⟨⟨s1, s2⟩, s3, s4⟩ := hyb
   obtain ⟨⟨b1, b2⟩, b3, b4⟩ := hxb.out
   obtain ⟨yo, yc, ys, yk, ⟨ysrc, ydst, yst, yen, yrate, yrng, yloss⟩⟩ := y
   obtain ⟨xo, xc, xs, xk, ⟨xsrc, xdst, xst, xen, xrate, xrng, xloss⟩⟩ := x
   dsimp only at a0 a1 a2 a3 a4 a5 a6 a7 a8 a9 a10 s1 s2 s3 s4 b1 b2 b3 b4
   obtain rfl : xo = o := hxo.out
   unfold Chg.arr at kx
   dsimp only at kx
   obtain ⟨W5, hW5, hB5, hk5, hl5⟩ := box1 wr #[.int .i64 yo, .int .i64 yc, .int .i64 ys, .int .i64 yk, .int .i64 ysrc, .int .i64 ydst, .int .i64 yst, .int .i64 yen, .int .i64 yrate, .int .i64 yrng, .int .i64 yloss] 63
   have x5 := kx.ext hB5
   have f1 := x5.cell
   have f2 := x5.lt
   have f3 := x5.frozen
   have f4 := hk5.cell
   obtain ⟨m1, hm1⟩ : ∃ m, (if xs < ys + 1 then ys + 1 else xs) = m := ⟨_, rfl⟩
   have HM1 := Lib.hid (show max xs (ys + 1) = m1 by rw [<- hm1]; split <;> omega)
   have x6 : Blk (W5.setCell ⟨W3.heap.size, 2, none⟩ (.int .i64 m1)) W3.heap.size 63 #[.int .i64 xo, .int .i64 xc, .int .i64 m1, .int .i64 xk, .int .i64 xsrc, .int .i64 xdst, .int .i64 xst, .int .i64 xen, .int .i64 xrate, .int .i64 xrng, .int .i64 xloss] := x5.set_ 2 _
   have y6 := hk5.far (p := ⟨W3.heap.size, 2, none⟩) (show wr.heap.size ≠ W3.heap.size by omega) (.int .i64 m1)
   have hE6 := (hE.trans hB5).setCell (p := ⟨W3.heap.size, 2, none⟩) (Nat.le_refl _) (.int .i64 m1)
   obtain ⟨W6, hW6⟩ : ∃ W6, W5.setCell ⟨W3.heap.size, 2, none⟩ (.int .i64 m1) = W6 := ⟨_, rfl⟩
   rw [hW6] at x6 y6 hE6
   have g1 := x6.cell
   have g2 := x6.lt
   have g3 := x6.frozen
   have g4 := y6.cell
   have g5 := y6.lt
   by_cases ho : yo = xo
   ·obtain ⟨m2, hm2⟩ : ∃ m, (if xc < yc + 1 then yc + 1 else xc) = m := ⟨_, rfl⟩
    have HM2 := Lib.hid (show max xc (yc + 1) = m2 by rw [<- hm2]; split <;> omega)
    have hbo : (yo == xo) = true := by rw [beq_iff_eq]; exact ho
    have HN := Lib.hid (show nxt ⟨xo, xc, xs, xk, ⟨xsrc, xdst, xst, xen, xrate, xrng, xloss⟩⟩ ⟨yo, yc, ys, yk, ⟨ysrc, ydst, yst, yen, yrate, yrng, yloss⟩⟩ = ⟨xo, m2, m1, xk, ⟨xsrc, xdst, xst, xen, xrate, xrng, xloss⟩⟩ by unfold nxt; dsimp only; rw [if_pos ho, HM1.out, HM2.out])
    have x7 : Blk (W6.setCell ⟨W3.heap.size, 1, none⟩ (.int .i64 m2)) W3.heap.size 63 #[.int .i64 xo, .int .i64 m2, .int .i64 m1, .int .i64 xk, .int .i64 xsrc, .int .i64 xdst, .int .i64 xst, .int .i64 xen, .int .i64 xrate, .int .i64 xrng, .int .i64 xloss] := x6.set_ 1 _
    have hE7 := hE6.setCell (p := ⟨W3.heap.size, 1, none⟩) (Nat.le_refl _) (.int .i64 m2)
    have HB := Lib.hid (show (0 <= m1 /\ m1 <= 1099511627777) /\ (0 <= m2 /\ m2 <= 1000001) by have := HM1.out; have := HM2.out; omega)
    clear hst hy ho e1 e2
    go_wp2
    go_roundg (gk - 1)
    case measure => have := Hkn.out; omega
    case rel => exact ⟨k + 1, ⟨xo, m2, m1, xk, ⟨xsrc, xdst, xst, xen, xrate, xrng, xloss⟩⟩, by have := Hkn.out; omega, by go_num, Lib.hid (by rw [HST.out, HN.out]), Lib.hid rfl, HB, x7, hE7⟩
   ·have hbo : (yo == xo) = false := by rw [beq_eq_false_iff_ne]; exact ho
    have HN := Lib.hid (show nxt ⟨xo, xc, xs, xk, ⟨xsrc, xdst, xst, xen, xrate, xrng, xloss⟩⟩ ⟨yo, yc, ys, yk, ⟨ysrc, ydst, yst, yen, yrate, yrng, yloss⟩⟩ = ⟨xo, xc, m1, xk, ⟨xsrc, xdst, xst, xen, xrate, xrng, xloss⟩⟩ by unfold nxt; dsimp only; rw [if_neg ho, HM1.out])
    have HB := Lib.hid (show (0 <= m1 /\ m1 <= 1099511627777) /\ (0 <= xc /\ xc <= 1000001) by have := HM1.out; omega)
    clear hst hy ho e1 e2
    go_wp2
    go_roundg (gk - 1)
    case measure => have := Hkn.out; omega
    case rel => exact ⟨k + 1, ⟨xo, xc, m1, xk, ⟨xsrc, xdst, xst, xen, xrate, xrng, xloss⟩⟩, by have := Hkn.out; omega, by go_num, Lib.hid (by rw [HST.out, HN.out]), Lib.hid rfl, HB, x6, hE6⟩
  ·obtain rfl : k = l.length := by have := Hkn.out; omega
   have HX := Lib.hid (show x = nextC l o kind ⟨src, dst, st, en, rate, rng, loss⟩ by rw [HF.out, hx.out, List.take_length])
   obtain ⟨xo, xc, xs, xk, ⟨xsrc, xdst, xst, xen, xrate, xrng, xloss⟩⟩ := x
   unfold Chg.arr at kx
   dsimp only at kx
   have kz := hk3.ext hE
   have f1 := kx.cell
   have f2 := kx.lt
   have g1 := kz.cell
   have g2 := kz.lt
   have g3 := kz.frozen
   have hs := kz.setCells_ [.int .i64 xo, .int .i64 xc, .int .i64 xs, .int .i64 xk, .int .i64 xsrc, .int .i64 xdst, .int .i64 xst, .int .i64 xen, .int .i64 xrate, .int .i64 xrng, .int .i64 xloss] 0
   rw [arrSets11] at hs
   have hE7 := ext_setCells (((hB1.trans hB2).trans hB3).trans hE) (show w.heap.size <= W2.heap.size by omega) 0 [.int .i64 xo, .int .i64 xc, .int .i64 xs, .int .i64 xk, .int .i64 xsrc, .int .i64 xdst, .int .i64 xst, .int .i64 xen, .int .i64 xrate, .int .i64 xrng, .int .i64 xloss]
   obtain ⟨w7, hw7⟩ : ∃ w7, wr.setCells W2.heap.size 0 [.int .i64 xo, .int .i64 xc, .int .i64 xs, .int .i64 xk, .int .i64 xsrc, .int .i64 xdst, .int .i64 xst, .int .i64 xen, .int .i64 xrate, .int .i64 xrng, .int .i64 xloss] = w7 := ⟨_, rfl⟩
   rw [hw7] at hs hE7
   clear e1 e2
   go_wp2
   simp only [World.setCells, Nat.zero_add, Nat.reduceAdd] at hw7
   rw [hw7]
   have hc7 := hs.cell
   refine bodyPost_ret (v := .agg #[.int .i64 xo, .int .i64 xc, .int .i64 xs, .int .i64 xk, .int .i64 xsrc, .int .i64 xdst, .int .i64 xst, .int .i64 xen, .int .i64 xrate, .int .i64 xrng, .int .i64 xloss]) (by rw [results_cellu rfl]; simp [asAddr, Result.andThen, hc7, go_sem]) rfl ?_
   exact ⟨by rw [<- HX.out]; rfl, hE7⟩
end Go.Proofs.YtemkpimngbbpkaaGreat
