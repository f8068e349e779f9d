/- Update: slices.Compact at changes. -/
import Derived.BigQuiet
import Derived.Test.YtemkpimngbbpkaaGreatQc06
import Derived.Test.YtemkpimngbbpkaaGreatQc29
import Derived.Test.YtemkpimngbbpkaaGreatQc32
namespace Go.Proofs.YtemkpimngbbpkaaGreat
set_option linter.unusedVariables false
set_option linter.unusedSimpArgs false
open Go.RowKit Go.Shelf
attribute [local go_sem] Oper.semAt_some
theorem zero_chgC : ∀ w, (zeroValue 63).run Tryz.prog w = .ok (.agg #[.int .i64 0, .int .i64 0, .int .i64 0, .int .i64 0, .int .i64 0, .int .i64 0, .int .i64 0, .int .i64 0, .int .i64 0, .int .i64 0, .int .i64 0]) w := fun w => by kernel_rfl
theorem zeroCells11_len (n : Nat) : (Builtin.zeroCells #[.int .i64 0, .int .i64 0, .int .i64 0, .int .i64 0, .int .i64 0, .int .i64 0, .int .i64 0, .int .i64 0, .int .i64 0, .int .i64 0, .int .i64 0] n).toList.length = n * 11 := by simp [Builtin.zeroCells]
theorem zeroCells11_one (n : Nat) : ∀ v ∈ (Builtin.zeroCells #[.int .i64 0, .int .i64 0, .int .i64 0, .int .i64 0, .int .i64 0, .int .i64 0, .int .i64 0, .int .i64 0, .int .i64 0, .int .i64 0, .int .i64 0] n).toList, v.oneCell' = true := by
 intro v hv
 simp only [Builtin.zeroCells, Array.toList_map, List.mem_map] at hv
 obtain ⟨i, _, rfl⟩ := hv
 show ((#[.int .i64 0, .int .i64 0, .int .i64 0, .int .i64 0, .int .i64 0, .int .i64 0, .int .i64 0, .int .i64 0, .int .i64 0, .int .i64 0, .int .i64 0] : Array Value)[i % 11]!).oneCell' = true
 have h : i % 11 < 11 := Nat.mod_lt _ (by omega)
 have h2 : i % 11 = 0 ∨ i % 11 = 1 ∨ i % 11 = 2 ∨ i % 11 = 3 ∨ i % 11 = 4 ∨ i % 11 = 5 ∨ i % 11 = 6 ∨ i % 11 = 7 ∨ i % 11 = 8 ∨ i % 11 = 9 ∨ i % 11 = 10 := by omega
 rcases h2 with h | h | h | h | h | h | h | h | h | h | h <;> rw [h] <;> rfl
theorem run_clear_chg {w : World} {g : Nat} {e : TypeId} {cur : Array Value} {n c : Nat} (hk : Blk w g e cur) (hn : n * 11 <= cur.size) (a : Nat) (han : a < n) (ty : TypeId) :
 (Builtin.clear_ #[54] ty #[.slice (some ⟨g, a * 11, none⟩) (n - a) (c - a)]).run Tryz.prog w = .ok (.tuple #[]) (w.setCells g (a * 11) (Builtin.zeroCells #[.int .i64 0, .int .i64 0, .int .i64 0, .int .i64 0, .int .i64 0, .int .i64 0, .int .i64 0, .int .i64 0, .int .i64 0, .int .i64 0, .int .i64 0] (n - a)).toList) := by
 have hl := zeroCells11_len (n - a)
 have hst := run_storeCells_cells (P := Tryz.prog) g (a * 11) (Builtin.zeroCells #[.int .i64 0, .int .i64 0, .int .i64 0, .int .i64 0, .int .i64 0, .int .i64 0, .int .i64 0, .int .i64 0, .int .i64 0, .int .i64 0, .int .i64 0] (n - a)).toList 0 w
  (fun j hj => by
   rw [hk.cell]
   rw [hl] at hj
   rw [Array.getElem?_eq_getElem (by omega)]
   rfl)
  (fun j hj => hk.frozen _) (zeroCells11_one _)
 rw [Nat.add_zero] at hst
 obtain ⟨d, hd⟩ : ∃ d, n - a = d + 1 := ⟨n - a - 1, by omega⟩
 rw [hd] at hst ⊢
 simp only [Builtin.clear_]
 simp [run_underlying Tryz.underlying54, zero_chgC, Value.cells, hst]
set_option maxRecDepth 100000 in
set_option maxHeartbeats 16000000 in
theorem compactChg_any (base : Nat) (u : Value) (zs : List Chg) (w0 w : World) (hu : Owns EChg w base 63 u zs) (hl : zs.length <= 10000) (h0 : Ext w0 w) (hb : w0.heap.size <= base) :
 Calls Tryz.prog 62 #[u] w fun e w' => ∃ u', e = .returned u' /\ Owns EChg w' base 63 u' (cmpct zs) /\ Ext w0 w' := by
 obtain ⟨i0, hi0, hz0, hz1, hz2⟩ := info_parts info_chg
 by_cases h2 : zs.length < 2
 ·obtain ⟨A, c, rfl, hR⟩ := hu.form
  have hcm := Lib.hid (cmpct_one h2)
  go_enter Tryz.func62, Tryz.ntmps62
  go_wp2
  go_ret
  exact ⟨_, rfl, by rw [hcm.out]; exact hu, h0⟩
 have hu2 := hu.2
 rcases hu2 with ⟨_, h9⟩ | ⟨g, c, cur, rfl, hg, hh, hnc, hcap, hsz, ht⟩
 ·omega
 clear hh ht hsz
 have hcm1 : c <= 9223372036854775807 := by unfold maxLen at hcap; omega
 go_enter Tryz.func62, Tryz.ntmps62
 go_wp2_with fail
 go_loopg [3] (zs.length - 1) (fun n v wr => ∃ k : Nat, 1 <= k /\ k + n = zs.length /\ v = .int .i64 k /\ Ext w wr /\ Hid (cmpct (zs.take k) = zs.take k))
 case atStart => exact ⟨1, by omega, by omega, by go_num, Ext.refl _, Lib.hid (cmpct_take1 (by omega))⟩
 case round =>
  obtain ⟨k, hk1, hkn, rfl, hE, hcp⟩ := hrel
  have Hkn := Lib.hid hkn
  have huw := hu.ext hE
  by_cases hlt : k < zs.length
  ·obtain ⟨j, rfl⟩ : ∃ j, k = j + 1 := ⟨k - 1, by omega⟩
   have hj : j < zs.length := by omega
   obtain ⟨b, o, e', hbb, a0, a1, a2, a3, a4, a5, a6, a7, a8, a9, a10⟩ := huw.rd.chg hlt
   injection e' with e'
   injection e' with e1 e2
   subst e1 e2
   obtain ⟨b, o, e', _, d0, d1, d2, d3, d4, d5, d6, d7, d8, d9, d10⟩ := huw.rd.chg hj
   injection e' with e'
   injection e' with e1 e2
   subst e1 e2
   have hst := Lib.hid (cmpct_step hlt)
   have hta := Lib.hid (List.take_append_getElem hlt)
   generalize zs[j + 1] = x at *
   generalize zs[j] = y at *
   have heq := fun w => eqlChg_run x y w
   obtain ⟨q, hq⟩ : ∃ q, chgEq x y = q := ⟨_, rfl⟩
   rw [hq] at heq
   have HQ := Lib.hid hq
   clear hq
   obtain ⟨xo, xc, xs, xk, ⟨xsrc, xdst, xst, xen, xrate, xrng, xloss⟩⟩ := x
   obtain ⟨yo, yc, ys, yk, ⟨ysrc, ydst, yst, yen, yrate, yrng, yloss⟩⟩ := y
   unfold Chg.arr at heq
   dsimp only at heq a0 a1 a2 a3 a4 a5 a6 a7 a8 a9 a10 d0 d1 d2 d3 d4 d5 d6 d7 d8 d9 d10
   simp only [Nat.zero_add] at a0 a1 a2 a3 a4 a5 a6 a7 a8 a9 a10 d0 d1 d2 d3 d4 d5 d6 d7 d8 d9 d10
   have hN := Near.refl wr
   clear hkn hk1
   cases q with
   | false =>
     go_wp2_with fail
     have hq := quiet_near hN
     refine wp_region_quiet_below (by kernel_rfl) (by kernel_rfl) ?_
     repeat (first | go_big_quiet_skip | (go_big_quiet_want; go_big_quiet_op; first | go_big_quiet_on | (apply Exists.intro; refine ⟨fun _ => ?_, ?_⟩; (focus (first | fail)); go_big_quiet_on)))
     refine wpQuiet_nil ?_
     intro w1 hw1
     clear hq
     replace hw1 := quiet_ext hw1
     replace hN := hN.step hw1
     have hC := hN.2
     go_wp2
     go_roundg (gk - 1)
     case measure => have := Hkn.out; omega
     case rel => exact ⟨j + 1 + 1, by omega, by have := Hkn.out; omega, by go_num, hE.trans hN.1, Lib.hid (by rw [hst.out, HQ.out, if_neg (by simp), hcp.out]; exact hta.out)⟩
   | true =>
     have hcut := fun w => run_cut (P := Tryz.prog) (A := some ⟨g, 0, none⟩) (n := zs.length) (c := c) (k := j + 1) Tryz.underlying54 hi0 hz1 (by omega) w
     have hA : cutA (some (⟨g, 0, none⟩ : Addr)) c (j + 1) 11 = some ⟨g, (j + 1) * 11, none⟩ := by unfold cutA; rw [if_neg (by omega)]; simp [Addr.add]
     rw [hA] at hcut
     simp only [Int.natCast_add, Int.natCast_one] at hcut
     go_wp2_with fail
     have hq := quiet_near hN
     refine wp_region_quiet_below (by kernel_rfl) (by kernel_rfl) ?_
     repeat (first | go_big_quiet_skip | (go_big_quiet_want; go_big_quiet_op; first | go_big_quiet_on | (apply Exists.intro; refine ⟨fun _ => ?_, ?_⟩; (focus (first | fail)); go_big_quiet_on)))
     refine wpQuiet_nil ?_
     intro w1 hw1
     clear hq
     replace hw1 := quiet_ext hw1
     replace hN := hN.step hw1
     have hC := hN.2
     obtain ⟨wo, rfl⟩ : ∃ wo, wo = wr := ⟨_, rfl⟩
     obtain ⟨gk0, rfl⟩ : ∃ gk0, gk0 = gk := ⟨_, rfl⟩
     clear a0 a1 a2 a3 a4 a5 a6 a7 a8 a9 a10 d0 d1 d2 d3 d4 d5 d6 d7 d8 d9 d10
     have hs1 : zs.length - (j + 1) <= 10000 := by omega
     go_wp2_with fail
     go_loopg [3, 5] (zs.length - (j + 1) - 1) (fun n v3 v5 wq => ∃ (k i : Nat) (M : List Chg), v3 = .int .i64 k /\ v5 = .int .i64 i /\ 1 <= i /\ i + n = zs.length - (j + 1) /\ k + 1 <= j + 1 + i /\ j + 1 <= k /\ M.length = zs.length /\ Owns EChg wq base 63 (.slice (some ⟨g, 0, none⟩) zs.length c) M /\ Hid (M.take k = cmpct (zs.take (j + 1 + i)) /\ ∀ p, k <= p -> M[p]? = zs[p]?) /\ Ext w0 wq)
     case atStart => exact ⟨j + 1, 1, zs, by go_num, by go_num, Nat.le_refl _, by omega, by omega, Nat.le_refl _, rfl, huw.ext hN.1, Lib.hid ⟨by rw [hst.out, HQ.out, if_pos rfl, hcp.out], fun _ _ => rfl⟩, (h0.trans hE).trans hN.1⟩
     case round =>
      obtain ⟨k, i, M, rfl, rfl, hi1, hin, hki, hjk, hML, ho, hM, hE3⟩ := hrel
      have Hin := Lib.hid hin
      clear hin hcut
      by_cases hlt3 : i < zs.length - (j + 1)
      ·obtain ⟨i', rfl⟩ : ∃ i', i = i' + 1 := ⟨i - 1, by omega⟩
       have hp : j + 1 + (i' + 1) < M.length := by omega
       have hp' : j + 1 + i' < M.length := by omega
       have hkM : k < M.length := by omega
       have E1 : M[j + 1 + (i' + 1)] = zs[j + 1 + (i' + 1)]'(by omega) := by
        have h := hM.out.2 (j + 1 + (i' + 1)) (by omega)
        rw [List.getElem?_eq_getElem hp, List.getElem?_eq_getElem (by omega)] at h
        injection h
       have E2 : M[j + 1 + i'] = zs[j + 1 + i']'(by omega) := by
        have h := hM.out.2 (j + 1 + i') (by omega)
        rw [List.getElem?_eq_getElem hp', List.getElem?_eq_getElem (by omega)] at h
        injection h
       have HS := Lib.hid (cmpct_step (l := zs) (j := j + 1 + i') (by omega))
       rw [show zs[j + 1 + i' + 1]'(by omega) = M[j + 1 + (i' + 1)] from E1.symm, <- E2] at HS
       obtain ⟨b, o, e', _, a0, a1, a2, a3, a4, a5, a6, a7, a8, a9, a10⟩ := ho.rd.chg hp
       injection e' with e'
       injection e' with e1 e2
       subst e1 e2
       obtain ⟨b, o, e', _, d0, d1, d2, d3, d4, d5, d6, d7, d8, d9, d10⟩ := ho.rd.chg hp'
       injection e' with e'
       injection e' with e1 e2
       subst e1 e2
       obtain ⟨b, o, e', _, f0, f1, f2, f3, f4, f5, f6, f7, f8, f9, f10⟩ := ho.rd.chg hkM
       injection e' with e'
       injection e' with e1 e2
       subst e1 e2
       obtain ⟨curw, hblk, _, _, _⟩ := ho.there_
       have q1 := hblk.lt
       have q2 := hblk.frozen
       have HM1 := Lib.hid (show ∀ x : Chg, M.set k x = M.set k x /\ (M.set k x).take (k + 1) = M.take k ++ [x] from fun x => ⟨rfl, by rw [List.take_set, List.take_succ_eq_append_getElem hkM, List.set_append_right _ _ (by rw [List.length_take]; omega), List.length_take, Nat.min_eq_left (by omega), Nat.sub_self]; rfl⟩)
       clear E1 E2
       generalize M[j + 1 + (i' + 1)] = x at *
       generalize M[j + 1 + i'] = y at *
       generalize M[k] = z at *
       have heq2 := fun w => neqChg_run x y w
       obtain ⟨q, hq⟩ : ∃ q, chgEq x y = q := ⟨_, rfl⟩
       rw [hq] at heq2
       have HQ2 := Lib.hid hq
       clear hq heq
       have hm1 : (j + 1 + (i' + 1)) * 11 = (j + 1) * 11 + (i' + 1) * 11 := by omega
       have hm2 : (j + 1 + i') * 11 = (j + 1) * 11 + i' * 11 := by omega
       obtain ⟨xo, xc, xs, xk, ⟨xsrc, xdst, xst, xen, xrate, xrng, xloss⟩⟩ := x
       obtain ⟨yo, yc, ys, yk, ⟨ysrc, ydst, yst, yen, yrate, yrng, yloss⟩⟩ := y
       unfold Chg.arr at heq2
       dsimp only at heq2 a0 a1 a2 a3 a4 a5 a6 a7 a8 a9 a10 d0 d1 d2 d3 d4 d5 d6 d7 d8 d9 d10
       simp only [Nat.zero_add, hm1, hm2] at a0 a1 a2 a3 a4 a5 a6 a7 a8 a9 a10 d0 d1 d2 d3 d4 d5 d6 d7 d8 d9 d10 f0 f1 f2 f3 f4 f5 f6 f7 f8 f9 f10
       have hN3 := Near.refl wr
       clear hN hm1 hm2
       have hN := hN3
       clear hN3
       cases q with
       | true =>
         go_wp2_with fail
         have hq := quiet_near hN
         refine wp_region_quiet_below (by kernel_rfl) (by kernel_rfl) ?_
         repeat (first | go_big_quiet_skip | (go_big_quiet_want; go_big_quiet_op; first | go_big_quiet_on | (apply Exists.intro; refine ⟨fun _ => ?_, ?_⟩; (focus (first | fail)); go_big_quiet_on)))
         refine wpQuiet_nil ?_
         intro w1 hw1
         clear hq
         replace hw1 := quiet_ext hw1
         replace hN := hN.step hw1
         have hC := hN.2
         go_wp2
         go_roundg (gk - 1)
         case measure => have := Hin.out; omega
         case rel => exact ⟨k, i' + 1 + 1, M, by go_num, by go_num, by omega, by have := Hin.out; omega, by omega, hjk, hML, ho.ext hN.1, Lib.hid ⟨by rw [hM.out.1]; have := HS.out; rw [HQ2.out, if_pos rfl] at this; exact this.symm, hM.out.2⟩, hE3.trans hN.1⟩
       | false =>
         go_wp2_with fail
         have hq := quiet_near hN
         refine wp_region_quiet_below (by kernel_rfl) (by kernel_rfl) ?_
         repeat (first | go_big_quiet_skip | (go_big_quiet_want; go_big_quiet_op; first | go_big_quiet_on | (apply Exists.intro; refine ⟨fun _ => ?_, ?_⟩; (focus (first | fail)); go_big_quiet_on)))
         refine wpQuiet_nil ?_
         intro w1 hw1
         clear hq
         replace hw1 := quiet_ext hw1
         replace hN := hN.step hw1
         have hC := hN.2
         have hb1 := hblk.ext hN.1
         have q3 := hb1.lt
         have q4 := hb1.frozen
         obtain ⟨W13, hW13, ho13, hE13⟩ : ∃ W13, w1.setCells g (k * 11) [.int .i64 xo, .int .i64 xc, .int .i64 xs, .int .i64 xk, .int .i64 xsrc, .int .i64 xdst, .int .i64 xst, .int .i64 xen, .int .i64 xrate, .int .i64 xrng, .int .i64 xloss] = W13 /\ Owns EChg W13 base 63 (.slice (some ⟨g, 0, none⟩) zs.length c) (M.set k ⟨xo, xc, xs, xk, ⟨xsrc, xdst, xst, xen, xrate, xrng, xloss⟩⟩) /\ Ext w0 W13 :=
          ⟨_, rfl, (ho.ext hN.1).set_ hkM ⟨xo, xc, xs, xk, ⟨xsrc, xdst, xst, xen, xrate, xrng, xloss⟩⟩, ext_setCells (hE3.trans hN.1) (by omega) (k * 11) _⟩
         simp only [World.setCells, Nat.add_assoc, Nat.reduceAdd] at hW13
         have hkz : k < zs.length := by omega
         go_wp2
         (try rw [hW13])
         go_roundg (gk - 1)
         case measure => have := Hin.out; omega
         case rel => exact ⟨k + 1, i' + 1 + 1, M.set k ⟨xo, xc, xs, xk, ⟨xsrc, xdst, xst, xen, xrate, xrng, xloss⟩⟩, by go_num, by go_num, by omega, by have := Hin.out; omega, by omega, by omega, by rw [List.length_set]; exact hML, ho13, Lib.hid ⟨by rw [(HM1.out _).2, hM.out.1]; have := HS.out; rw [HQ2.out, if_neg (by simp)] at this; exact this.symm, fun p hp => by rw [List.getElem?_set_ne (by omega)]; exact hM.out.2 p (by omega)⟩, hE13⟩
      ·have hi2 : j + 1 + i = zs.length := by have := Hin.out; omega
       have hkz : k < zs.length := by omega
       obtain ⟨curw, hkc, hcs, _, _⟩ := ho.there_
       have hA2 : cutA (some (⟨g, 0, none⟩ : Addr)) c k 11 = some ⟨g, k * 11, none⟩ := by unfold cutA; rw [if_neg (by omega)]; simp [Addr.add_lit]
       have hct1 := fun w => run_cut (P := Tryz.prog) (A := some ⟨g, 0, none⟩) (n := zs.length) (c := c) (k := k) Tryz.underlying54 hi0 hz1 (by omega) w
       rw [hA2] at hct1
       have hct2 := fun w => run_cutAt (P := Tryz.prog) (A := some ⟨g, 0, none⟩) (n := zs.length) (c := c) (k := k) Tryz.underlying54 hi0 hz1 (by omega) w
       rw [hA2] at hct2
       have hct3 := fun w => run_take (P := Tryz.prog) (A := some ⟨g, 0, none⟩) (n := zs.length) (c := c) (k := k) Tryz.underlying54 hi0 (by omega) w
       have hct4 := fun w => run_takeAt (P := Tryz.prog) (A := some ⟨g, 0, none⟩) (n := zs.length) (c := c) (k := k) Tryz.underlying54 hi0 (by omega) w
       have hcl := run_clear_chg (n := zs.length) (c := c) hkc (by rw [hcs]; exact Nat.mul_le_mul_right _ (by omega)) k hkz
       have hfin := ho.cutoff (a := k) (by omega) (Builtin.zeroCells #[.int .i64 0, .int .i64 0, .int .i64 0, .int .i64 0, .int .i64 0, .int .i64 0, .int .i64 0, .int .i64 0, .int .i64 0, .int .i64 0, .int .i64 0] (zs.length - k)).toList (by
        rw [zeroCells11_len]
        show k * 11 + (zs.length - k) * 11 <= c * 11
        omega)
       have hM1 := hM.out.1
       rw [hi2, List.take_of_length_le (Nat.le_refl _)] at hM1
       rw [hM1] at hfin
       have hE9 := fun vs => ext_setCells hE3 (show w0.heap.size <= g by omega) (k * 11) vs
       clear heq hcs hM1
       go_wp2
       go_ret
       exact ⟨_, rfl, hfin, hE9 _⟩
  ·obtain rfl : k = zs.length := by have := Hkn.out; omega
   rw [List.take_of_length_le (Nat.le_refl _)] at hcp
   go_wp2
   go_ret
   exact ⟨_, rfl, by rw [hcp.out]; exact huw, h0.trans hE⟩
end Go.Proofs.YtemkpimngbbpkaaGreat
