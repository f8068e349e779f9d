/- Update: Contacts. · Update: Known. -/
import Derived.Test.YtemkpimngbbpkaaGreatQc06
import Derived.Test.YtemkpimngbbpkaaGreatQc33
namespace Go.Proofs.YtemkpimngbbpkaaGreat
set_option linter.unusedVariables false
set_option linter.unusedSimpArgs false
open Go.RowKit Go.Shelf Go.Sort
attribute [local go_sem] Oper.semAt_some
set_option maxRecDepth 100000 in
set_option maxHeartbeats 16000000 in
theorem Contacts_any (n : Int) (A : Option Addr) (cc : Nat) (l : List Chg) (w : World) (hR : Rd EChg w A l) (h0 : hChk n l = 0) :
 Calls Tryz.prog 18 #[.agg #[.int .i64 n, .slice A l.length cc]] w fun e w' => Ext w w' /\ ∃ cs, ContS l cs /\ ((64 < cs.length /\ e = .returned (.tuple #[.slice none 0 0, .int .i64 4])) ∨ (cs.length <= 64 /\ ∃ u ts, e = .returned (.tuple #[u, .int .i64 0]) /\ ts.Perm cs /\ Owns ECon w' w.heap.size 61 u ts)) := by
 obtain ⟨hn, hl, hok⟩ := hChk_ok h0
 have hK := fun y hy => (Chg.ok_con (hok y hy) hn.2).1
 have g0 := fun w h => hCheck_any n A cc l w h
 rw [h0] at g0
 have g1 := fun w h => contacts_any n A cc l w h hl hK
 clear h0 hok hK
 obtain ⟨W1, hW1, hB1, hk1, hl1⟩ := box1 w #[.int .i64 n, .slice A l.length cc] 56
 have e1 := hk1.cell
 have e2 := hk1.lt
 go_enter Tryz.func18, Tryz.ntmps18
 go_wp2_with fail
 clear hW1
 refine (g0 _ (hR.ext hB1)).mono ?_
 rintro e w2 ⟨rfl, hb2⟩
 have hE2 := hB1.trans hb2
 have kh2 := hk1.ext hb2
 clear e1 e2
 have e1 := kh2.cell
 have e2 := kh2.lt
 go_wp2_with fail
 refine (g1 _ (hR.ext hE2)).mono ?_
 rintro e w3 ⟨u, cs, rfl, hS, ho3, hb3⟩
 have hE3 := hE2.trans hb3
 have z2 := hE2.size
 have z3 := hb3.size
 obtain ⟨A3, c3, rfl, hR3⟩ := ho3.form
 by_cases h64 : (64 : Int) < cs.length
 ·have hd : decide ((64 : Int) < cs.length) = true := decide_eq_true h64
  go_wp2
  go_ret2
  exact ⟨hE3, cs, hS, .inl ⟨by omega, rfl⟩⟩
 ·have hd : decide ((64 : Int) < cs.length) = false := decide_eq_false h64
  have g2 := sortCon_all w2.heap.size _ cs w3 ho3 (by omega)
  go_wp2_with fail
  refine g2.mono ?_
  rintro e w4 ⟨rfl, ts, hp, hs, ho4, hg4⟩
  have hE4 := ext_grown hE3 ho3 z2 hg4
  go_wp2
  go_ret2
  exact ⟨hE4, cs, hS, .inr ⟨by omega, _, ts, rfl, hp, ho4.mono z2⟩⟩
end Go.Proofs.YtemkpimngbbpkaaGreat
namespace Go.Proofs.YtemkpimngbbpkaaGreat
set_option linter.unusedVariables false
set_option linter.unusedSimpArgs false
open Go.RowKit Go.Shelf Go.Sort
attribute [local go_sem] Oper.semAt_some
theorem knF_take {l : List Chg} {k : Nat} (h : k < l.length) (v : List Int) : (l.take (k + 1)).foldl knS v = knS ((l.take k).foldl knS v) l[k] := by
 rw [<- List.take_append_getElem h, List.foldl_append]
 rfl
theorem Chg.ok_org {n : Int} {y : Chg} (h : y.ok n = true) : 0 <= y.org /\ y.org < n := by
 unfold Chg.ok at h
 simp only [Bool.and_eq_true, decide_eq_true_eq] at h
 exact ⟨h.1.1, h.1.2.1⟩
set_option maxRecDepth 100000 in
set_option maxHeartbeats 16000000 in
theorem uKnown_any (N : Nat) (A : Option Addr) (cc : Nat) (l : List Chg) (w : World) (hR : Rd EChg w A l) (h0 : hChk N l = 0) :
 Calls Tryz.prog 73 #[.agg #[.int .i64 N, .slice A l.length cc]] w fun e w' => ∃ A' c', e = .returned (.tuple #[.slice A' N c', .int .i64 0]) /\ Owns EInt w' w.heap.size 3 (.slice A' N c') (knownL l N) /\ Ext w w' := by
 obtain ⟨i0, hi0, hz0, hz1, hz2⟩ := info_parts info_intD
 obtain ⟨⟨n1, n2⟩, hl, hok⟩ := hChk_ok h0
 have HO := Lib.hid (fun y hy => Chg.ok_org (hok y hy))
 have g0 := fun w h => hCheck_any N A cc l w h
 rw [h0] at g0
 have hmk := fun w => run_make1 (n := N) Tryz.underlying162 hi0 hz0 hz1 (by omega) rfl (by omega) w
 clear h0 hok
 obtain ⟨W1, hW1, hB1, hk1, hl1⟩ := box1 w #[.int .i64 N, .slice A l.length cc] 56
 have e1 := hk1.cell
 have e2 := hk1.lt
 go_enter Tryz.func73, Tryz.ntmps73
 go_wp2_with fail
 clear hW1
 refine (g0 _ (hR.ext hB1)).mono ?_
 rintro e w2 ⟨rfl, hb2⟩
 have hE2 := hB1.trans hb2
 have kh2 := hk1.ext hb2
 clear e1 e2
 have e1 := kh2.cell
 have e2 := kh2.lt
 obtain ⟨W3, hW3⟩ : ∃ W3, w2.alloc (.cells (Array.replicate N (.int .i64 0)) 3) = W3 := ⟨_, rfl⟩
 have ho3 : Owns EInt W3 w2.heap.size 3 (.slice (some ⟨w2.heap.size, 0, none⟩) N N) (List.replicate N 0) := by rw [<- hW3]; exact Owns.madeInts w2 _ _ N (Nat.le_refl _) (by simp only [maxLen]; omega) _ rfl
 have hB3 : Ext w2 W3 := by rw [<- hW3]; exact (Ext.refl _).alloc _
 have kh3 := kh2.ext hB3
 have e3 := kh3.cell
 have e4 := kh3.lt
 go_wp2_with fail
 clear hW3 e1 e2 e3 e4
 go_loopg [16] l.length (fun m v wr => ∃ k : Nat, k + m = l.length /\ v = .int .i64 k /\ Owns EInt wr w2.heap.size 3 (.slice (some ⟨w2.heap.size, 0, none⟩) N N) ((l.take k).foldl knS (List.replicate N 0)) /\ Ext w2 wr)
 case atStart => exact ⟨0, by omega, by go_num, ho3, hB3⟩
 case round =>
  obtain ⟨k, hkn, rfl, ho, hE⟩ := hrel
  have Hkn := Lib.hid hkn
  by_cases hlt : k < l.length
  ·obtain ⟨b, o', rfl, hb, a0, a1, a2, a3, a4, a5, a6, a7, a8, a9, a10⟩ := (hR.ext (hE2.trans hE)).chg hlt
   obtain ⟨x0, x1⟩ := HO.out _ (List.getElem_mem hlt)
   have Hst := Lib.hid (knF_take hlt (List.replicate N 0))
   have hlen : ((l.take k).foldl knS (List.replicate N 0)).length = N := by rw [knF_len, List.length_replicate]
   generalize (l.take k).foldl knS (List.replicate N 0) = m at *
   generalize l[k] = x at *
   obtain ⟨xo, xc, xs, xk, ⟨xsrc, xdst, xst, xen, xrate, xrng, xloss⟩⟩ := x
   dsimp only at a0 a1 a2 a3 a4 a5 a6 a7 a8 a9 a10 x0 x1 Hst
   obtain ⟨W5, hW5, hB5, hk5, hl5⟩ := box1 wr #[.int .i64 xo, .int .i64 xc, .int .i64 xs, .int .i64 xk, .int .i64 xsrc, .int .i64 xdst, .int .i64 xst, .int .i64 xen, .int .i64 xrate, .int .i64 xrng, .int .i64 xloss] 63
   have f4 := hk5.cell
   have f5 := hk5.lt
   have ho5 := ho.ext hB5
   have hE5 := hE.trans hB5
   obtain ⟨q1, q2⟩ := ho5.free
   have q3 := ho5.gi (i := xo) (by omega)
   clear hkn
   go_wp2
   clear hW5
   go_roundg (gk - 1)
   case measure => have := Hkn.out; omega
   case rel => exact ⟨k + 1, by have := Hkn.out; omega, by go_num, by rw [Hst.out]; exact ho5.seti (k := xo.toNat) (by omega) xc, hE5.setCell (Nat.le_refl _) _⟩
  ·obtain rfl : k = l.length := by have := Hkn.out; omega
   rw [List.take_of_length_le (Nat.le_refl _)] at ho
   go_wp2
   go_ret2
   have z1 := hE2.size
   exact ⟨_, _, rfl, ho.mono z1, hE2.trans hE⟩
end Go.Proofs.YtemkpimngbbpkaaGreat
