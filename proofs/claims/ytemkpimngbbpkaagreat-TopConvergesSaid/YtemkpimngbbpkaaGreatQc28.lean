/- Update: the iterator over the changes that are not known. · Security: block.Encode; the numbers of a bundle. · Security: keyhash.Sum, keyhash.Chain. · Security: block.EncodeAll, bundle.Encode. -/
import Derived.BigRegion
import Derived.Laws.Rows
import Derived.Laws.BytesString
import Derived.Test.YtemkpimngbbpkaaGreatQc04
import Derived.Test.YtemkpimngbbpkaaGreatQc06
import Derived.Test.YtemkpimngbbpkaaGreatQc10
import Derived.Test.YtemkpimngbbpkaaGreatQc12
import Derived.Test.YtemkpimngbbpkaaGreatQc18
import Derived.Test.YtemkpimngbbpkaaGreatQc26
import Derived.Test.YtemkpimngbbpkaaGreatQc27
namespace Go.Proofs.YtemkpimngbbpkaaGreat
set_option linter.unusedVariables false
set_option linter.unusedSimpArgs false
open Go.RowKit Go.Shelf
attribute [local go_sem] Oper.semAt_some
def chV (x : Chg) : Array Value := #[.agg x.arr]
theorem miss_yes {l : List Chg} {v : List Int} {k : Nat} {x : Chg} (h : l[k]? = some x) (hg : gi v x.org < x.cnt) : missL (l.take (k + 1)) v = missL (l.take k) v ++ [x] := by
 rw [List.take_add_one, h]
 unfold missL
 simp [hg]
theorem miss_no {l : List Chg} {v : List Int} {k : Nat} {x : Chg} (h : l[k]? = some x) (hg : ¬ gi v x.org < x.cnt) : missL (l.take (k + 1)) v = missL (l.take k) v := by
 rw [List.take_add_one, h]
 unfold missL
 simp [hg]
set_option maxRecDepth 100000 in
set_option maxHeartbeats 8000000 in
theorem unk_iter (li Bh Bv n₁ : Nat) (S : Nat -> Prop) (n : Int) (A : Option Addr) (cc : Nat) (l : List Chg) (B : Option Addr) (cv : Nat) (v : List Int) (w0 W : World) (hA : Rd EChg w0 A l) (hB : Rd EInt w0 B v) (hl : l.length <= 1000) (hv : v.length <= 16) (ho : ∀ x ∈ l, 0 <= x.org /\ x.org < v.length)
 (h0 : Ext w0 W) (hn0 : w0.heap.size <= n₁) (hS0 : ∀ k, S k -> w0.heap.size <= k) (hn1 : n₁ <= W.heap.size)
 (kh : Blk W Bh 56 #[.int .i64 n, .slice A l.length cc]) (kv : Blk W Bv 162 #[.slice B v.length cv]) (bh : Bh < n₁ /\ ¬ S Bh) (bv : Bv < n₁ /\ ¬ S Bv)
 (J Jx : List Chg -> World -> Prop) (hJ : AbidesFrom W.heap.size J)
 (hY : ∀ pre x W, J pre W -> pre.length < 1000 -> YieldAt Fence.wide 3 Tryz.prog li (chV x) W fun e W' =>
  (e = .returned (.bool true) /\ J (pre ++ [x]) W' /\ KpP n₁ S W W') ∨ (e = .returned (.bool false) /\ Jx (pre ++ [x]) W'))
 (hj : J [] W) :
 CallsIn Fence.wide 4 Tryz.prog 235 #[.func (.yield li) #[] #[], .pointer (some ⟨Bh, 0, none⟩), .pointer (some ⟨Bv, 0, none⟩)] W fun e W' => (∃ u, e = .returned u) /\
  ((∃ ys, ys = missL l v /\ J ys W') ∨ (∃ pre : List Chg, True /\ Jx pre W')) := by
 have hmix : Tryz.prog.follows .mixedOrders = true := by kernel_rfl
 have HO := Lib.hid ho
 clear ho
 have e1 := kh.cell
 have e2 := kh.lt
 refine callsIn_of_wp Tryz.func235 rfl trivial ?_ rfl
 simp only [Tryz.ntmps235, List.size_toArray, List.length_cons, List.length_nil, Nat.reduceAdd, Nat.reduceSub, Array.replicate_succ, Array.replicate_zero, List.push_toArray, List.append_toArray, List.nil_append, List.cons_append]
 gi_wp2
 clear e1 e2
 gi_loopw [9] (fun i wr => ∃ (k : Nat) (pre : List Chg), k <= l.length /\ i = .int .i64 k /\ Hid (pre = missL (l.take k) v) /\ pre.length <= k /\ J pre wr /\ KpP n₁ S W wr) (fun i _ => l.length - (intOf i).toNat)
 case atStart => exact ⟨0, [], Nat.zero_le _, rfl, Lib.hid (by simp [missL]), Nat.le_refl _, hj, KpP.refl _ _ _⟩
 case round =>
  obtain ⟨k, pre, hk, rfl, Hpre, hpk, hjr, hK⟩ := hrel
  have hE := hK.ext h0 hn0 hS0
  have kh1 := hK.blk kh bh.1 bh.2
  have kv1 := hK.blk kv bv.1 bv.2
  have hsz := hK.size
  by_cases hlt : k < l.length
  ·obtain ⟨b, o, rfl, hb, a0, a1, a2, a3, a4, a5, a6, a7, a8, a9, a10⟩ := (hA.ext hE).chg hlt
   obtain ⟨x0, x1⟩ := HO.out _ (List.getElem_mem hlt)
   have hxg : l[k]? = some l[k] := List.getElem?_eq_getElem hlt
   generalize l[k] = x at *
   have Hxg := Lib.hid hxg
   clear hxg
   obtain ⟨xo, xc, xs, xk, ⟨xsrc, xdst, xst, xen, xrate, xrng, xloss⟩⟩ := x
   dsimp only at a0 a1 a2 a3 a4 a5 a6 a7 a8 a9 a10 x0 x1
   obtain ⟨W3, hW3, hB3, hk3, hl3⟩ := box1 wr #[.int .i64 xo, .int .i64 xc, .int .i64 xs, .int .i64 xk, .int .i64 xsrc, .int .i64 xdst, .int .i64 xst, .int .i64 xen, .int .i64 xrate, .int .i64 xrng, .int .i64 xloss] 63
   obtain ⟨W4, hW4, hB4⟩ : ∃ W4, W3.drew = W4 /\ Ext W3 W4 := ⟨_, rfl, (Ext.refl _).drew⟩
   have hB34 := hB3.trans hB4
   have hjr4 := abides_ext hJ hjr hB34
   have hK4 := hK.trans (KpP.of_ext (by omega) hB34)
   have k5 := hk3.ext hB4
   have c5 := k5.cell
   have kv4 := kv1.ext hB34
   have cv4 := kv4.cell
   have hR4 := (hB.ext hE).ext hB34
   obtain ⟨q, p, rfl, hq, -⟩ := hR4.int (k := xo.toNat) (by omega)
   obtain ⟨hq1, -⟩ := hR4.gi (i := xo) (by omega)
   obtain ⟨gv, hgv⟩ : ∃ gv, gi v xo = gv := ⟨_, rfl⟩
   rw [hgv] at hq1
   have HGV := Lib.hid hgv
   clear hgv
   by_cases hg : gv < xc
   ·have hd : decide (gv < xc) = true := decide_eq_true hg
    have Hn := Lib.hid (miss_yes Hxg.out (v := v) (by rw [HGV.out]; exact hg))
    obtain ⟨fn, tmps, assign, body, hy, hR⟩ := hY pre ⟨xo, xc, xs, xk, ⟨xsrc, xdst, xst, xen, xrate, xrng, xloss⟩⟩ W4 hjr4 (by omega)
    dsimp only [chV, Chg.arr] at hy
    clear hg
    gi_wp2
    (try rw [hW3])
    refine wpIn_region_I (fun j => decide (11 <= j)) (fun w' => w' = W4) hmix hW4 (fun hSS => ?_)
    rw [hW4]
    clear hW3 hW4 hSS
    refine wpAnyI_takeT (i := 0) (v := ?_) rfl rfl (by kernel_rfl) (by kernel_rfl) (by kernel_rfl) (by kernel_rfl) (fun _ _ _ h => h) ⟨Or.inl ⟨by kernel_rfl, ?_⟩, fun _ => rfl⟩ ?_
    rotate_left
    ·intro w'; go_simp; first | done | with_reducible rfl
    try simp only [Act.put, List.getElem_toArray, List.getElem_cons_succ, List.getElem_cons_zero, sp1]
    refine wpAnyI_take (i := 1) (v := ?_) rfl rfl (by kernel_rfl) (by kernel_rfl) (by kernel_rfl) (by kernel_rfl) (by kernel_rfl) (fun _ _ _ h => h) ⟨Or.inl ⟨by kernel_rfl, ?_⟩, fun _ => rfl⟩ rfl ?_
    rotate_left
    ·intro w' hw'
     subst hw'
     go_simp
     first | done | with_reducible rfl
    try simp only [Act.put, List.getElem_toArray, List.getElem_cons_succ, List.getElem_cons_zero, sp1]
    refine wpAnyI_take (i := 2) (v := ?_) rfl rfl (by kernel_rfl) (by kernel_rfl) (by kernel_rfl) (by kernel_rfl) (by kernel_rfl) (fun _ _ _ h => h) ⟨Or.inl ⟨by kernel_rfl, ?_⟩, fun _ => rfl⟩ rfl ?_
    rotate_left
    ·intro w' hw'
     subst hw'
     go_simp
     first | done | with_reducible rfl
    try simp only [Act.put, List.getElem_toArray, List.getElem_cons_succ, List.getElem_cons_zero, sp1]
    refine wpAnyI_takeT (i := 3) (v := ?_) rfl rfl (by kernel_rfl) (by kernel_rfl) (by kernel_rfl) (by kernel_rfl) (fun _ _ _ h => h) ⟨Or.inl ⟨by kernel_rfl, ?_⟩, fun _ => rfl⟩ ?_
    rotate_left
    ·intro w'; go_simp; first | done | with_reducible rfl
    try simp only [Act.put, List.getElem_toArray, List.getElem_cons_succ, List.getElem_cons_zero, sp1]
    refine wpAnyI_take (i := 4) (v := ?_) rfl rfl (by kernel_rfl) (by kernel_rfl) (by kernel_rfl) (by kernel_rfl) (by kernel_rfl) (fun _ _ _ h => h) ⟨Or.inl ⟨by kernel_rfl, ?_⟩, fun _ => rfl⟩ rfl ?_
    rotate_left
    ·intro w' hw'
     subst hw'
     go_simp
     first | done | with_reducible rfl
    try simp only [Act.put, List.getElem_toArray, List.getElem_cons_succ, List.getElem_cons_zero, sp1]
    refine wpAnyI_takeT (i := 5) (v := ?_) rfl rfl (by kernel_rfl) (by kernel_rfl) (by kernel_rfl) (by kernel_rfl) (fun _ _ _ h => h) ⟨Or.inl ⟨by kernel_rfl, ?_⟩, fun _ => rfl⟩ ?_
    rotate_left
    ·intro w'; go_simp; first | done | with_reducible rfl
    try simp only [Act.put, List.getElem_toArray, List.getElem_cons_succ, List.getElem_cons_zero, sp1]
    refine wpAnyI_take (i := 6) (v := ?_) rfl rfl (by kernel_rfl) (by kernel_rfl) (by kernel_rfl) (by kernel_rfl) (by kernel_rfl) (fun _ _ _ h => h) ⟨Or.inl ⟨by kernel_rfl, ?_⟩, fun _ => rfl⟩ rfl ?_
    rotate_left
    ·intro w' hw'
     subst hw'
     go_simp
     first | done | with_reducible rfl
    try simp only [Act.put, List.getElem_toArray, List.getElem_cons_succ, List.getElem_cons_zero, sp1]
    refine wpAnyI_takeT (i := 7) (v := ?_) rfl rfl (by kernel_rfl) (by kernel_rfl) (by kernel_rfl) (by kernel_rfl) (fun _ _ _ h => h) ⟨Or.inl ⟨by kernel_rfl, ?_⟩, fun _ => rfl⟩ ?_
    rotate_left
    ·intro w'; go_simp; first | done | with_reducible rfl
    try simp only [Act.put, List.getElem_toArray, List.getElem_cons_succ, List.getElem_cons_zero, sp1]
    refine wpAnyI_takeT (i := 8) (v := ?_) rfl rfl (by kernel_rfl) (by kernel_rfl) (by kernel_rfl) (by kernel_rfl) (fun _ _ _ h => h) ⟨Or.inl ⟨by kernel_rfl, ?_⟩, fun _ => rfl⟩ ?_
    rotate_left
    ·intro w'; go_simp; first | done | with_reducible rfl
    try simp only [Act.put, List.getElem_toArray, List.getElem_cons_succ, List.getElem_cons_zero, sp1]
    refine wpAnyI_takeT (i := 9) (v := ?_) rfl rfl (by kernel_rfl) (by kernel_rfl) (by kernel_rfl) (by kernel_rfl) (fun _ _ _ h => h) ⟨Or.inl ⟨by kernel_rfl, ?_⟩, fun _ => rfl⟩ ?_
    rotate_left
    ·intro w'; go_simp; first | done | with_reducible rfl
    try simp only [Act.put, List.getElem_toArray, List.getElem_cons_succ, List.getElem_cons_zero, sp1]
    refine wpAnyI_take (i := 10) (v := ?_) rfl rfl (by kernel_rfl) (by kernel_rfl) (by kernel_rfl) (by kernel_rfl) (by kernel_rfl) (fun _ _ _ h => h) ⟨Or.inl ⟨by kernel_rfl, ?_⟩, fun _ => rfl⟩ rfl ?_
    rotate_left
    ·intro w' hw'
     subst hw'
     go_simp
     first | done | with_reducible rfl
    try simp only [Act.put, List.getElem_toArray, List.getElem_cons_succ, List.getElem_cons_zero, sp1]
    refine wpAnyI_one (i := 11) (by kernel_rfl) rfl (fun K hK9 => ?_)
    go_simp
    refine hR.mono ?_
    rintro e W6 (⟨rfl, hJ6, hk6⟩ | ⟨rfl, hJx6⟩)
    ·refine hK9 _ _ (fun h => by cases h) ?_
     clear hK9 K
     try simp only [Act.put, List.getElem_toArray, List.getElem_cons_succ, List.getElem_cons_zero, sp1]
     refine wpAnyI_takeT (i := 12) (v := ?_) rfl rfl (by kernel_rfl) (by kernel_rfl) (by kernel_rfl) (by kernel_rfl) (fun _ _ _ h => h) ⟨Or.inl ⟨by kernel_rfl, ?_⟩, fun _ => rfl⟩ ?_
     rotate_left
     ·intro w'; go_simp; first | done | with_reducible rfl
     try simp only [Act.put, List.getElem_toArray, List.getElem_cons_succ, List.getElem_cons_zero, sp1]
     refine wpAnyI_takeT (i := 13) (v := ?_) rfl rfl (by kernel_rfl) (by kernel_rfl) (by kernel_rfl) (by kernel_rfl) (fun _ _ _ h => h) ⟨Or.inl ⟨by kernel_rfl, ?_⟩, fun _ => rfl⟩ ?_
     rotate_left
     ·intro w'; go_simp; first | done | with_reducible rfl
     try simp only [Act.put, List.getElem_toArray, List.getElem_cons_succ, List.getElem_cons_zero, sp1]
     refine wpAnyI_done (by kernel_rfl) ?_ _
     gi_wp2
     go_roundw
     case rel => exact ⟨k + 1, _, by omega, by go_num, Lib.hid (by rw [Hn.out, <- Hpre.out]), by simp; omega, hJ6, hK4.trans hk6⟩
     case measure => simp [intOf]; omega
    ·refine hK9 _ _ (fun h => by cases h) ?_
     clear hK9 K
     try simp only [Act.put, List.getElem_toArray, List.getElem_cons_succ, List.getElem_cons_zero, sp1]
     refine wpAnyI_takeT (i := 12) (v := ?_) rfl rfl (by kernel_rfl) (by kernel_rfl) (by kernel_rfl) (by kernel_rfl) (fun _ _ _ h => h) ⟨Or.inl ⟨by kernel_rfl, ?_⟩, fun _ => rfl⟩ ?_
     rotate_left
     ·intro w'; go_simp; first | done | with_reducible rfl
     try simp only [Act.put, List.getElem_toArray, List.getElem_cons_succ, List.getElem_cons_zero, sp1]
     refine wpAnyI_takeT (i := 13) (v := ?_) rfl rfl (by kernel_rfl) (by kernel_rfl) (by kernel_rfl) (by kernel_rfl) (fun _ _ _ h => h) ⟨Or.inl ⟨by kernel_rfl, ?_⟩, fun _ => rfl⟩ ?_
     rotate_left
     ·intro w'; go_simp; first | done | with_reducible rfl
     try simp only [Act.put, List.getElem_toArray, List.getElem_cons_succ, List.getElem_cons_zero, sp1]
     refine wpAnyI_done (by kernel_rfl) ?_ _
     gi_wp2
     refine bodyPost_ret (results_none rfl _ _ _) rfl ?_
     exact ⟨⟨_, rfl⟩, .inr ⟨_, trivial, hJx6⟩⟩
   ·have hd : decide (gv < xc) = false := decide_eq_false hg
    have Hn := Lib.hid (miss_no Hxg.out (v := v) (by rw [HGV.out]; exact hg))
    clear hg
    gi_wp2
    (try rw [hW3])
    refine wpIn_region_I (fun j => decide (11 <= j)) (fun w' => w' = W4) hmix hW4 (fun hSS => ?_)
    rw [hW4]
    clear hW3 hW4 hSS
    refine wpAnyI_takeT (i := 0) (v := ?_) rfl rfl (by kernel_rfl) (by kernel_rfl) (by kernel_rfl) (by kernel_rfl) (fun _ _ _ h => h) ⟨Or.inl ⟨by kernel_rfl, ?_⟩, fun _ => rfl⟩ ?_
    rotate_left
    ·intro w'; go_simp; first | done | with_reducible rfl
    try simp only [Act.put, List.getElem_toArray, List.getElem_cons_succ, List.getElem_cons_zero, sp1]
    refine wpAnyI_take (i := 1) (v := ?_) rfl rfl (by kernel_rfl) (by kernel_rfl) (by kernel_rfl) (by kernel_rfl) (by kernel_rfl) (fun _ _ _ h => h) ⟨Or.inl ⟨by kernel_rfl, ?_⟩, fun _ => rfl⟩ rfl ?_
    rotate_left
    ·intro w' hw'
     subst hw'
     go_simp
     first | done | with_reducible rfl
    try simp only [Act.put, List.getElem_toArray, List.getElem_cons_succ, List.getElem_cons_zero, sp1]
    refine wpAnyI_take (i := 2) (v := ?_) rfl rfl (by kernel_rfl) (by kernel_rfl) (by kernel_rfl) (by kernel_rfl) (by kernel_rfl) (fun _ _ _ h => h) ⟨Or.inl ⟨by kernel_rfl, ?_⟩, fun _ => rfl⟩ rfl ?_
    rotate_left
    ·intro w' hw'
     subst hw'
     go_simp
     first | done | with_reducible rfl
    try simp only [Act.put, List.getElem_toArray, List.getElem_cons_succ, List.getElem_cons_zero, sp1]
    refine wpAnyI_takeT (i := 3) (v := ?_) rfl rfl (by kernel_rfl) (by kernel_rfl) (by kernel_rfl) (by kernel_rfl) (fun _ _ _ h => h) ⟨Or.inl ⟨by kernel_rfl, ?_⟩, fun _ => rfl⟩ ?_
    rotate_left
    ·intro w'; go_simp; first | done | with_reducible rfl
    try simp only [Act.put, List.getElem_toArray, List.getElem_cons_succ, List.getElem_cons_zero, sp1]
    refine wpAnyI_take (i := 4) (v := ?_) rfl rfl (by kernel_rfl) (by kernel_rfl) (by kernel_rfl) (by kernel_rfl) (by kernel_rfl) (fun _ _ _ h => h) ⟨Or.inl ⟨by kernel_rfl, ?_⟩, fun _ => rfl⟩ rfl ?_
    rotate_left
    ·intro w' hw'
     subst hw'
     go_simp
     first | done | with_reducible rfl
    try simp only [Act.put, List.getElem_toArray, List.getElem_cons_succ, List.getElem_cons_zero, sp1]
    refine wpAnyI_takeT (i := 5) (v := ?_) rfl rfl (by kernel_rfl) (by kernel_rfl) (by kernel_rfl) (by kernel_rfl) (fun _ _ _ h => h) ⟨Or.inl ⟨by kernel_rfl, ?_⟩, fun _ => rfl⟩ ?_
    rotate_left
    ·intro w'; go_simp; first | done | with_reducible rfl
    try simp only [Act.put, List.getElem_toArray, List.getElem_cons_succ, List.getElem_cons_zero, sp1]
    refine wpAnyI_take (i := 6) (v := ?_) rfl rfl (by kernel_rfl) (by kernel_rfl) (by kernel_rfl) (by kernel_rfl) (by kernel_rfl) (fun _ _ _ h => h) ⟨Or.inl ⟨by kernel_rfl, ?_⟩, fun _ => rfl⟩ rfl ?_
    rotate_left
    ·intro w' hw'
     subst hw'
     go_simp
     first | done | with_reducible rfl
    try simp only [Act.put, List.getElem_toArray, List.getElem_cons_succ, List.getElem_cons_zero, sp1]
    refine wpAnyI_takeT (i := 7) (v := ?_) rfl rfl (by kernel_rfl) (by kernel_rfl) (by kernel_rfl) (by kernel_rfl) (fun _ _ _ h => h) ⟨Or.inl ⟨by kernel_rfl, ?_⟩, fun _ => rfl⟩ ?_
    rotate_left
    ·intro w'; go_simp; first | done | with_reducible rfl
    try simp only [Act.put, List.getElem_toArray, List.getElem_cons_succ, List.getElem_cons_zero, sp1]
    refine wpAnyI_takeT (i := 8) (v := ?_) rfl rfl (by kernel_rfl) (by kernel_rfl) (by kernel_rfl) (by kernel_rfl) (fun _ _ _ h => h) ⟨Or.inl ⟨by kernel_rfl, ?_⟩, fun _ => rfl⟩ ?_
    rotate_left
    ·intro w'; go_simp; first | done | with_reducible rfl
    try simp only [Act.put, List.getElem_toArray, List.getElem_cons_succ, List.getElem_cons_zero, sp1]
    refine wpAnyI_takeT (i := 9) (v := undef) rfl rfl (by kernel_rfl) (by kernel_rfl) (by kernel_rfl) (by kernel_rfl) (fun _ _ _ h => h) ⟨Or.inr ⟨by rfl, rfl⟩, fun _ => rfl⟩ ?_
    try simp only [Act.put, List.getElem_toArray, List.getElem_cons_succ, List.getElem_cons_zero, sp1]
    refine wpAnyI_takeT (i := 10) (v := undef) rfl rfl (by kernel_rfl) (by kernel_rfl) (by kernel_rfl) (by kernel_rfl) (fun _ _ _ h => h) ⟨Or.inr ⟨by rfl, rfl⟩, fun _ => rfl⟩ ?_
    try simp only [Act.put, List.getElem_toArray, List.getElem_cons_succ, List.getElem_cons_zero, sp1]
    refine wpAnyI_takeT (i := 11) (v := undef) rfl rfl (by kernel_rfl) (by kernel_rfl) (by kernel_rfl) (by kernel_rfl) (fun _ _ _ h => h) ⟨Or.inr ⟨by rfl, rfl⟩, fun _ => rfl⟩ ?_
    try simp only [Act.put, List.getElem_toArray, List.getElem_cons_succ, List.getElem_cons_zero, sp1]
    refine wpAnyI_takeT (i := 12) (v := undef) rfl rfl (by kernel_rfl) (by kernel_rfl) (by kernel_rfl) (by kernel_rfl) (fun _ _ _ h => h) ⟨Or.inr ⟨by rfl, rfl⟩, fun _ => rfl⟩ ?_
    try simp only [Act.put, List.getElem_toArray, List.getElem_cons_succ, List.getElem_cons_zero, sp1]
    refine wpAnyI_takeT (i := 13) (v := ?_) rfl rfl (by kernel_rfl) (by kernel_rfl) (by kernel_rfl) (by kernel_rfl) (fun _ _ _ h => h) ⟨Or.inl ⟨by kernel_rfl, ?_⟩, fun _ => rfl⟩ ?_
    rotate_left
    ·intro w'; go_simp; first | done | with_reducible rfl
    try simp only [Act.put, List.getElem_toArray, List.getElem_cons_succ, List.getElem_cons_zero, sp1]
    refine wpAnyI_done (by kernel_rfl) ?_ _
    gi_wp2
    go_roundw
    case rel => exact ⟨k + 1, pre, by omega, by go_num, Lib.hid (by rw [Hn.out]; exact Hpre.out), by omega, hjr4, hK4⟩
    case measure => simp [intOf]; omega
  ·gi_wp2
   go_end0
   exact ⟨⟨_, rfl⟩, .inl ⟨pre, by rw [Hpre.out, List.take_of_length_le (by omega)], hjr⟩⟩
theorem unk_stops (Bh Bv n₁ : Nat) (S : Nat -> Prop) (n : Int) (A : Option Addr) (cc : Nat) (l : List Chg) (B : Option Addr) (cv : Nat) (v : List Int) (w0 w : World) (hA : Rd EChg w0 A l) (hB : Rd EInt w0 B v) (hl : l.length <= 1000) (hv : v.length <= 16) (ho : ∀ x ∈ l, 0 <= x.org /\ x.org < v.length)
 (h0 : Ext w0 w) (hn0 : w0.heap.size <= n₁) (hS0 : ∀ k, S k -> w0.heap.size <= k) (hn1 : n₁ <= w.heap.size)
 (kh : Blk w Bh 56 #[.int .i64 n, .slice A l.length cc]) (kv : Blk w Bv 162 #[.slice B v.length cv]) (bh : Bh < n₁ /\ ¬ S Bh) (bv : Bv < n₁ /\ ¬ S Bv) :
 SeqStopsK Fence.wide 4 Tryz.prog 235 #[.pointer (some ⟨Bh, 0, none⟩), .pointer (some ⟨Bv, 0, none⟩)] chV (KpP n₁ S) (fun ys => ys = missL l v) (fun _ => True) 1000 w :=
 fun li J Jx W hW hJ _ hY hj => unk_iter li Bh Bv n₁ S n A cc l B cv v w0 W hA hB hl hv ho (h0.trans hW) hn0 hS0 (Nat.le_trans hn1 (Ext.size hW)) (kh.ext hW) (kv.ext hW) bh bv J Jx hJ hY hj
end Go.Proofs.YtemkpimngbbpkaaGreat
namespace Go.Proofs.YtemkpimngbbpkaaGreat
set_option linter.unusedVariables false
set_option linter.unusedSimpArgs false
open Go.RowKit Go.Shelf
attribute [local go_sem] Oper.semAt_some
theorem sealB_len (s : Bts) : (sealB s).length <= s.length + 14 := by
 have := vint_len (s.length : Int)
 unfold sealB vtext ctail
 simp only [List.length_append, List.length_cons, List.length_nil]
 omega
theorem vtext_len (s : Bts) : (vtext s).length <= s.length + 10 := by
 have := vint_len (s.length : Int)
 unfold vtext
 rw [List.length_append]
 omega
theorem blErr_ok {b : Bl} (h : b.err = 0) : (1 <= b.kind /\ b.kind <= 255) /\ (0 <= b.flags /\ b.flags <= 15) /\ b.data.length <= 1024 := by
 unfold Bl.err at h
 split at h
 ·omega
 ·split at h
  ·omega
  ·split at h
   ·omega
   ·omega
theorem blEnc_len {b : Bl} (h : b.err = 0) : b.enc.length <= 1100 := by
 obtain ⟨_, _, h3⟩ := blErr_ok h
 unfold Bl.enc
 have h4 := sealB_len (vint b.kind ++ vint b.flags ++ vtext b.data)
 have h5 := vint_len b.kind
 have h6 := vint_len b.flags
 have h7 := vtext_len b.data
 simp only [List.length_append] at h4
 omega
theorem str_name (l : Bts) : ∃ ba : ByteArray, (⟨l.toArray⟩ : ByteArray) = ba /\ strV l = .string ba /\ ba.size = l.length := ⟨_, rfl, rfl, by show l.toArray.size = l.length; simp⟩
set_option maxRecDepth 100000 in
set_option maxHeartbeats 8000000 in
theorem blEnc_any (b : Bl) (w : World) (h : b.err = 0) :
 Calls Tryz.prog 188 #[.agg #[.int .i64 b.kind, .int .i64 b.flags, strV b.data]] w fun e w' => e = .returned (.tuple #[strV b.enc, .int .i64 0]) /\ Ext w w' := by
 obtain ⟨h1, h2, h3⟩ := blErr_ok h
 have f0 := fun w => blChk_any b w
 rw [h] at f0
 have f1 := fun w => Int_any b.kind w ⟨by omega, by omega⟩
 have f2 := fun w => Int_any b.flags w ⟨by omega, by omega⟩
 have f3 := fun w => Text_any b.data w (by omega)
 have l1 := vint_len b.kind
 have l2 := vint_len b.flags
 have l3 := vtext_len b.data
 have f4 := fun w => Seal_any (vint b.kind ++ vint b.flags ++ vtext b.data) w (by simp only [List.length_append]; omega)
 have q1 := bap (vint b.kind) (vint b.flags)
 have q2 := bap (vint b.kind ++ vint b.flags) (vtext b.data)
 have HE := Lib.hid (show b.enc = sealB (vint b.kind ++ vint b.flags ++ vtext b.data) from rfl)
 obtain ⟨n1, hn1⟩ : ∃ l, vint b.kind = l := ⟨_, rfl⟩
 obtain ⟨n2, hn2⟩ : ∃ l, vint b.flags = l := ⟨_, rfl⟩
 obtain ⟨n3, hn3⟩ : ∃ l, vtext b.data = l := ⟨_, rfl⟩
 rw [hn1] at f1 l1 f4 q1 q2 HE
 rw [hn2] at f2 l2 f4 q1 q2 HE
 rw [hn3] at f3 l3 f4 q2 HE
 obtain ⟨a1, ha1, hv1, hs1⟩ := str_name n1
 obtain ⟨a2, ha2, hv2, hs2⟩ := str_name n2
 obtain ⟨a3, ha3, hv3, hs3⟩ := str_name n3
 obtain ⟨a4, ha4, hv4, hs4⟩ := str_name (n1 ++ n2)
 obtain ⟨a5, ha5, hv5, hs5⟩ := str_name (n1 ++ n2 ++ n3)
 rw [ha1, ha2, ha4] at q1
 rw [ha4, ha3, ha5] at q2
 rw [hv1] at f1
 rw [hv2] at f2
 rw [hv3] at f3
 rw [hv5] at f4
 have z1 : a1.size + a2.size <= 9223372036854775807 := by omega
 have z2 : a4.size + a3.size <= 9223372036854775807 := by rw [List.length_append] at hs4; omega
 obtain ⟨sv, hsv⟩ : ∃ sv, strV (sealB (n1 ++ n2 ++ n3)) = sv := ⟨_, rfl⟩
 rw [hsv] at f4
 have HV := Lib.hid (show strV b.enc = sv by rw [HE.out, hsv])
 obtain ⟨ba, hba, _⟩ := strV_str b.data
 rw [hba] at f0 f3 ⊢
 obtain ⟨W, hW, hB, hk, hlt⟩ := box1 w #[.int .i64 b.kind, .int .i64 b.flags, .string ba] 116
 have hc := hk.cell
 clear h l1 l2 l3 hn1 hn2 hn3 ha1 ha2 ha3 ha4 ha5 hv1 hv2 hv3 hv4 hv5 hs1 hs2 hs3 hs4 hs5 hsv hba h1 h2 h3
 rw [HV.out]
 go_enter Tryz.func188, Tryz.ntmps188
 go_wp2_with fail
 clear hW
 refine (f0 _).mono ?_
 rintro e w1 ⟨rfl, hb1⟩
 have hx1 := hb1
 have c1 := (hk.ext hx1).cell
 have e1 := (hk.ext hx1).lt
 clear hc
 go_wp2_with fail
 refine (f1 _).mono ?_
 rintro e w2 ⟨rfl, hb2⟩
 have hx2 := hx1.trans hb2
 have c2 := (hk.ext hx2).cell
 have e2 := (hk.ext hx2).lt
 clear c1 e1
 go_wp2_with fail
 refine (f2 _).mono ?_
 rintro e w3 ⟨rfl, hb3⟩
 have hx3 := hx2.trans hb3
 have c3 := (hk.ext hx3).cell
 have e3 := (hk.ext hx3).lt
 clear c2 e2
 go_wp2_with fail
 refine (f3 _).mono ?_
 rintro e w4 ⟨rfl, hb4⟩
 clear c3 e3
 go_wp2_with fail
 refine (f4 _).mono ?_
 rintro e w5 ⟨rfl, hb5⟩
 go_wp2
 go_ret2
 exact ⟨rfl, (hB.trans hx3).trans (hb4.trans hb5)⟩
def ptrs (B : Nat) : Array Value := #[.pointer (some ⟨B, 0, none⟩), .pointer (some ⟨B, 1, none⟩), .pointer (some ⟨B, 2, none⟩), .pointer (some ⟨B, 3, none⟩), .pointer (some ⟨B, 4, none⟩), .pointer (some ⟨B, 5, none⟩), .pointer (some ⟨B, 6, none⟩), .pointer (some ⟨B, 7, none⟩), .pointer (some ⟨B, 8, none⟩), .pointer (some ⟨B, 9, none⟩)]
theorem ptrs_sets (B : Nat) : arrSets #[.pointer none, .pointer none, .pointer none, .pointer none, .pointer none, .pointer none, .pointer none, .pointer none, .pointer none, .pointer none] 0 (ptrs B).toList = ptrs B := by
 simp [arrSets, ptrs]
theorem ptrs_index (B k : Nat) (hk : k < 10) (w : World) : (Instr.index 203 (.agg (ptrs B)) (.int .i64 (k : Int))).run Tryz.prog w = .ok (.pointer (some ⟨B, k, none⟩)) w := by
 have h : k = 0 ∨ k = 1 ∨ k = 2 ∨ k = 3 ∨ k = 4 ∨ k = 5 ∨ k = 6 ∨ k = 7 ∨ k = 8 ∨ k = 9 := by omega
 rcases h with rfl | rfl | rfl | rfl | rfl | rfl | rfl | rfl | rfl | rfl
 all_goals simp [Instr.index, run_underlying Tryz.underlying203, asIntOf, ptrs, part, go_sem, Tryz.sizeOf202]
set_option maxRecDepth 100000 in
set_option maxHeartbeats 8000000 in
theorem numbers_any (B : Nat) (w : World) (hB : B < w.heap.size) :
 Calls Tryz.prog 105 #[.pointer (some ⟨B, 0, none⟩)] w fun e w' => e = .returned (.agg (ptrs B)) /\ Ext w w' := by
 obtain ⟨W, hW, hB1, hk, hlt⟩ := box1 w #[.pointer none, .pointer none, .pointer none, .pointer none, .pointer none, .pointer none, .pointer none, .pointer none, .pointer none, .pointer none] 203
 have hc := hk.cell
 have hf := hk.frozen
 have hBW : B < W.heap.size := Nat.lt_of_lt_of_le hB hB1.size
 go_enter Tryz.func105, Tryz.ntmps105
 go_wp2_with fail
 clear hW
 go_region
 have hS := Blk.ext (Blk.setCells_ (ptrs B).toList hk 0) (Ext.refl _).drew
 rw [ptrs_sets] at hS
 have hE : Ext w (W.setCells w.heap.size 0 (ptrs B).toList).drew := (ext_setCells hB1 (Nat.le_refl _) 0 _).drew
 change Exit.then _ _ Exit.normal _ (W.setCells w.heap.size 0 (ptrs B).toList).drew
 generalize (W.setCells w.heap.size 0 (ptrs B).toList).drew = W2 at *
 clear hc hf hk
 go_wp2
 refine bodyPost_ret (results_cell_row rfl _ _ w.heap.size 203 (ptrs B) (0, 0) _ rfl hS Tryz.underlying203 rfl (by kernel_rfl)) rfl ?_
 exact ⟨rfl, hE⟩
end Go.Proofs.YtemkpimngbbpkaaGreat
namespace Go.Proofs.YtemkpimngbbpkaaGreat
set_option linter.unusedVariables false
set_option linter.unusedSimpArgs false
open Go.RowKit Go.Shelf
attribute [local go_sem] Oper.semAt_some
theorem strV_nil : strV [] = .string ⟨#[]⟩ := rfl
theorem kSum_any (key : Bts) (w : World) :
 Calls Tryz.prog 124 #[strV key, .string ⟨#[]⟩] w fun e w' => (∃ t, e = .returned (.tuple #[strV t, .int .i64 (if key.length = 16 then 0 else 1)])) /\ Ext w w' := by
 have f1 := fun w h => tag_any key [] w h (by simp)
 obtain ⟨n, hn⟩ : ∃ n, key.length = n := ⟨_, rfl⟩
 have hsz := bsize_mk key
 rw [hn] at hsz f1 ⊢
 obtain ⟨ka, hka⟩ : ∃ ka : ByteArray, ⟨key.toArray⟩ = ka := ⟨_, rfl⟩
 have hkv : strV key = .string ka := by unfold strV; rw [hka]
 rw [hka] at hsz
 rw [hkv] at f1 ⊢
 rw [strV_nil] at f1
 by_cases h16 : n = 16
 ·subst h16
  have f2 := fun w => f1 w rfl
  have HT := Lib.hid (show ∃ T, tagB key [] = T from ⟨_, rfl⟩)
  obtain ⟨tv, htv⟩ : ∃ tv, strV (tagB key []) = tv := ⟨_, rfl⟩
  have HV := Lib.hid htv
  rw [htv] at f2
  clear f1 htv hka hn
  rw [if_pos rfl]
  go_enter Tryz.func124, Tryz.ntmps124
  go_wp2_with fail
  refine (f2 _).mono ?_
  clear f2
  rintro e w1 ⟨rfl, hb1⟩
  go_wp2
  go_ret2
  exact ⟨⟨_, by rw [HV.out]; rfl⟩, hb1⟩
 ·have hb : (((n : Int) != 16) = true) := by
   rw [bne_iff_ne]
   omega
  rw [if_neg h16]
  clear f1 hka hn hkv
  go_enter Tryz.func124, Tryz.ntmps124
  go_wp2
  go_ret2
  exact ⟨⟨[], rfl⟩, Ext.refl _⟩
theorem wpList_appendEq {P : Program} {w w' : World} {ops : Array Oper} {rest : List Oper} {o : Oper} {a : Act} {Q : Exit -> Act -> World -> Prop} (hgd : o.guard = none) (sl x : Operand) (t u : TypeId)
 (ho : o.op = .call { callee := .builtin .append, args := #[sl, x], argTypes := #[t, u] }) {v xv v' : Value} (hs : a.eval sl = v) (hx : a.eval x = xv)
 (hr : (Builtin.append_ #[t, u] o.type #[v, xv]).run P w = .ok v' w') (h : wpList P ops Q rest (a.put o.dst v') w') : wpList P ops Q (o :: rest) a w := by
 refine wpList_plain hgd fun K hK => ?_
 unfold Oper.wp execOp
 simp only [ho, resolve, invoke, builtin, Sem.run_bind, Sem.run_pure, Result.andThen_ok, List.map_toArray, List.map_cons, List.map_nil, hs, hx, hr]
 exact hK _ _ h
def EStr : Elt Bts := ⟨fun s => [strV s], 1, fun _ => rfl, by omega, fun x u hu => by simp at hu; subst hu; rfl⟩
theorem Rd.str {w : World} {A : Option Addr} {l : List Bts} (h : Rd EStr w A l) {k : Nat} (hk : k < l.length) : ∃ b o, A = some ⟨b, o, none⟩ /\ b < w.heap.size /\ w.cell? ⟨b, o + k, none⟩ = some (strV l[k]) := by
 obtain ⟨b, o, rfl, hb, hc⟩ := h.at hk
 refine ⟨b, o, rfl, hb, ?_⟩
 have h0 := hc 0 _ rfl
 have e9 : EStr.size = 1 := rfl
 rw [e9, Nat.mul_one, Nat.add_zero] at h0
 exact h0
theorem chainB_snoc (l : List Bts) (x : Bts) : chainB (l ++ [x]) = chainB l ++ (wby (UInt64.ofNat x.length) ++ x) := by simp [chainB]
theorem chainB_take {l : List Bts} {k : Nat} (h : k < l.length) : chainB (l.take (k + 1)) = chainB (l.take k) ++ wby (UInt64.ofNat l[k].length) ++ l[k] := by
 rw [<- List.take_append_getElem h, chainB_snoc, List.append_assoc]
theorem chainB_mono (l : List Bts) (k : Nat) : (chainB (l.take k)).length <= (chainB l).length := by
 have e : chainB l = chainB (l.take k) ++ chainB (l.drop k) := by
  unfold chainB
  rw [<- List.flatMap_append, List.take_append_drop]
 rw [e, List.length_append]
 omega
theorem wby_length (m : UInt64) : (wby m).length = 8 := by simp [wby]
theorem append_strO (w : World) (ty : TypeId) (base : Nat) (v : Value) (l s : Bts) (ho : Owns EB w base 5 v l) (hn : l.length + s.length <= 1000000) (hb : base <= w.heap.size) :
 ∃ v' w', (Builtin.append_ #[22, 9] ty #[v, strV s]).run Tryz.prog w = .ok v' w' /\ Owns EB w' base 5 v' (l ++ s) /\ w.grownBy w' v.ownBlock := by
 obtain ⟨i0, hi0, hz0, hz1, hz2⟩ := info_parts info_byte
 have hs := bsize_mk s
 obtain ⟨v', w', h1, h2, h3, _⟩ := Go.Lib.run_append_own_string (P := Tryz.prog) w base 22 9 ty 5 i0 Tryz.underlying22 Tryz.underlying9 hi0 hz0 hz1 hz2 v l.length (EB.all l) ho ⟨s.toArray⟩ (by rw [hs]; simp only [maxLen]; omega) (by rw [hs]; omega) hb
 refine ⟨v', w', h1, ?_, h3⟩
 rw [hs, strCells_mk, <- eb_all, <- EB.all_append, <- List.length_append] at h2
 exact h2
set_option maxRecDepth 100000 in
set_option maxHeartbeats 16000000 in
theorem chain_any (key : Bts) (A : Option Addr) (cc : Nat) (l : List Bts) (w : World) (hk : key.length = 16) (hR : Rd EStr w A l) (hl : (chainB l).length <= 65536) (hll : l.length <= 1000) :
 Calls Tryz.prog 125 #[strV key, .slice A l.length cc] w fun e w' => e = .returned (.tuple #[strV (tagB key (chainB l)), .int .i64 0]) /\ Ext w w' := by
 have f1 := fun w => tag_any key (chainB l) w hk hl
 have hsz := bsize_mk key
 obtain ⟨ka, hka⟩ : ∃ ka : ByteArray, ⟨key.toArray⟩ = ka := ⟨_, rfl⟩
 have hkv : strV key = .string ka := by unfold strV; rw [hka]
 rw [hka, hk] at hsz
 rw [hkv] at f1 ⊢
 clear hka hkv hk
 go_enter Tryz.func125, Tryz.ntmps125
 go_wp2_with fail
 go_loopg [6, 14] l.length (fun n u v wr => ∃ k : Nat, k + n = l.length /\ v = .int .i64 k /\ Owns EB wr w.heap.size 5 u (chainB (l.take k)) /\ Ext w wr)
 case atStart => exact ⟨0, by omega, by go_num, Owns.none_ _ _, Ext.refl _⟩
 case round =>
  obtain ⟨k, hkn, rfl, ho, hE⟩ := hrel
  have Hkn := Lib.hid hkn
  by_cases hlt : k < l.length
  ·obtain ⟨b, o, rfl, hb, hc⟩ := (hR.ext hE).str hlt
   have hT := chainB_take hlt
   have hM := chainB_mono l (k + 1)
   have hM0 := chainB_mono l k
   obtain ⟨x, hx⟩ : ∃ x, l[k] = x := ⟨_, rfl⟩
   rw [hx] at hc hT
   obtain ⟨P, hP⟩ : ∃ P, chainB (l.take k) = P := ⟨_, rfl⟩
   rw [hP] at ho hT hM0
   have hlen : P.length + 8 + x.length <= 65536 := by
    rw [hT, List.length_append, List.length_append, wby_length] at hM
    omega
   have HT := Lib.hid hT
   obtain ⟨xn, hxn⟩ : ∃ n, x.length = n := ⟨_, rfl⟩
   have hxs := bsize_mk x
   obtain ⟨xa, hxa⟩ : ∃ xa : ByteArray, ⟨x.toArray⟩ = xa := ⟨_, rfl⟩
   have hxv : strV x = .string xa := by unfold strV; rw [hxa]
   rw [hxa, hxn] at hxs
   rw [hxv] at hc
   rw [hxn] at hlen HT
   obtain ⟨A1, c1, rfl, hR1⟩ := ho.form
   obtain ⟨pn, hpn⟩ : ∃ n, P.length = n := ⟨_, rfl⟩
   rw [hpn] at hlen
   have fa := appendWord_any (.slice A1 P.length c1) P (UInt64.ofNat xn) w.heap.size wr ho (by omega) hE.size
   obtain ⟨y, hy⟩ : ∃ y, UInt64.ofNat xn = y := ⟨_, rfl⟩
   rw [hy] at fa HT
   have hyn : y.toNat = xn := by rw [<- hy, UInt64.toNat_ofNat']; omega
   rw [hpn] at fa ho ⊢
   rw [hyn] at fa
   have Hpn := Lib.hid hpn
   have Hxn := Lib.hid hxn
   have HXV := Lib.hid hxv
   have d1 : decide ((65536 : Int) < (xn : Int)) = false := decide_eq_false (by omega)
   have d2 : decide ((65536 : Int) < (pn : Int) + 8 + (xn : Int)) = false := decide_eq_false (by omega)
   clear hT hM hM0 hx hP hxn hpn hxa hxv hy hkn
   go_wp2_with fail
   refine fa.mono ?_
   clear fa
   rintro e w2 ⟨u2, rfl, ho2, hg2⟩
   have hE2 := ext_grown hE ho (Nat.le_refl _) hg2
   obtain ⟨v3, w3, q3, ho3, hg3⟩ := append_strO w2 22 w.heap.size u2 (P ++ wby y) x ho2 (by rw [List.length_append, wby_length, Hpn.out, Hxn.out]; omega) hE2.size
   rw [HXV.out] at q3
   have hE3 := ext_grown hE2 ho2 (Nat.le_refl _) hg3
   clear hc
   go_wp2_with (at_builtin; refine wpList_appendEq rfl (.tmp 34) (.tmp 35) _ _ (by rfl) (by rfl) (by rfl) q3 ?_)
   go_roundg (gk - 1)
   case measure => have := Hkn.out; omega
   case rel => exact ⟨k + 1, by have := Hkn.out; omega, by go_num, by rw [HT.out]; exact ho3, hE3⟩
  ·obtain rfl : k = l.length := by omega
   rw [List.take_length] at ho
   obtain ⟨A9, c9, rfl, hR9⟩ := ho.form
   have q1 := conv_str (P := Tryz.prog) wr 22 9 5 A9 c9 (chainB l) Tryz.underlying22 Tryz.underlying5 Tryz.underlying9 hR9
   have hf := f1 wr
   generalize strV (chainB l) = sv at *
   generalize (chainB l).length = m at *
   go_wp2_with fail
   refine hf.mono ?_
   rintro e w2 ⟨rfl, hb2⟩
   go_wp2
   go_ret2
   exact ⟨rfl, hE.trans hb2⟩
end Go.Proofs.YtemkpimngbbpkaaGreat
namespace Go.Proofs.YtemkpimngbbpkaaGreat
set_option linter.unusedVariables false
set_option linter.unusedSimpArgs false
open Go.RowKit Go.Shelf
attribute [local go_sem] Oper.semAt_some
theorem str_cat (a b : Bts) {x y z : ByteArray} (h1 : (⟨a.toArray⟩ : ByteArray) = x) (h2 : (⟨b.toArray⟩ : ByteArray) = y) (h3 : (⟨(a ++ b).toArray⟩ : ByteArray) = z) : x ++ y = z := by
 rw [<- h1, <- h2, <- h3, bap]
set_option maxRecDepth 100000 in
set_option maxHeartbeats 16000000 in
theorem encAll_any (A : Option Addr) (cc : Nat) (l : List Bl) (w : World) (hR : Rd EBl w A l) (hv : blksE l = 0) :
 Calls Tryz.prog 107 #[.slice A l.length cc] w fun e w' => e = .returned (.tuple #[strV (encAll l), .int .i64 0]) /\ Ext w w' := by
 obtain ⟨h8, hok, hasc⟩ := blksE_ok.1 hv
 have f1 := fun w => Int_any (l.length : Int) w ⟨by omega, by omega⟩
 have hl0 := vint_len (l.length : Int)
 have HE := Lib.hid (show encAll l = vint l.length ++ l.flatMap Bl.enc from rfl)
 obtain ⟨v0, hv0⟩ : ∃ v, vint (l.length : Int) = v := ⟨_, rfl⟩
 rw [hv0] at f1 hl0
 rw [show vint (l.length : Int) = v0 from hv0] at HE
 have HOK := Lib.hid hok
 have HASC := Lib.hid hasc
 clear hv hok hasc hv0
 go_enter Tryz.func107, Tryz.ntmps107
 go_wp2_with fail
 refine (f1 _).mono ?_
 clear f1
 rintro e w1 ⟨rfl, hb1⟩
 go_wp2_with fail
 go_loopg [4, 21] l.length (fun n u v wr => ∃ (k : Nat) (out : Bts), k + n = l.length /\ v = .int .i64 k /\ u = strV out /\ Hid (out = v0 ++ (l.take k).flatMap Bl.enc) /\ Hid (out.length <= 10 + k * 1100) /\ Ext w wr)
 case atStart => exact ⟨0, v0, by omega, by go_num, rfl, Lib.hid (by simp), Lib.hid (by omega), hb1⟩
 case round =>
  obtain ⟨k, out, hkn, rfl, rfl, ho, hol, hE⟩ := hrel
  have Hkn := Lib.hid hkn
  clear hkn
  by_cases hlt : k < l.length
  ·obtain ⟨b, o, rfl, hb, c0, c1, c2⟩ := (hR.ext hE).bl hlt
   have hyok := HOK.out _ (List.getElem_mem hlt)
   have hen := fun w => blEnc_any l[k] w hyok
   have hel := blEnc_len hyok
   have hnx : Hid (out ++ l[k].enc = v0 ++ (l.take (k + 1)).flatMap Bl.enc) := Lib.hid (by rw [ho.out, <- List.take_append_getElem hlt, List.flatMap_append]; simp)
   have hprev : ∀ j (h : j + 1 = k), (l[j]'(by omega)).kind < l[k].kind := fun j h => List.pairwise_iff_getElem.1 HASC.out j k (by omega) hlt (by omega)
   obtain ⟨y, hy⟩ : ∃ y, l[k] = y := ⟨_, rfl⟩
   rw [hy] at c0 c1 c2 hen hnx hprev hel
   obtain ⟨ba, hba, _⟩ := strV_str y.data
   rw [hba] at c2 hen
   obtain ⟨kd, hkd⟩ : ∃ kd, y.kind = kd := ⟨_, rfl⟩
   obtain ⟨fl, hfl⟩ : ∃ fl, y.flags = fl := ⟨_, rfl⟩
   obtain ⟨E, hEn⟩ : ∃ E, y.enc = E := ⟨_, rfl⟩
   rw [hkd, hfl, hEn] at hen
   rw [hkd] at c0 hprev
   rw [hfl] at c1
   rw [hEn] at hnx hel
   obtain ⟨oa, hoa, hov, hos⟩ := str_name out
   obtain ⟨ea, hea, hev, hes⟩ := str_name E
   obtain ⟨za, hza, hzv, hzs⟩ := str_name (out ++ E)
   have q1 := str_cat out E hoa hea hza
   have z1 : oa.size + ea.size <= 9223372036854775807 := by have := hol.out; omega
   have hnl : Hid ((out ++ E).length <= 10 + (k + 1) * 1100) := Lib.hid (by rw [List.length_append]; have := hol.out; omega)
   have HZV := Lib.hid hzv
   rw [hev] at hen
   rw [hov]
   obtain ⟨W1, hW1, hB1, hk1, hl1⟩ := box1 wr #[.int .i64 kd, .int .i64 fl, .string ba] 116
   have d1 := hk1.cell
   have hxE := hE.trans hB1
   clear hy hba hkd hfl hEn hoa hea hza hos hes hzs hov hev hzv hel hyok
   by_cases hk0 : k = 0
   ·subst hk0
    clear hprev
    simp only [Nat.zero_mul, Nat.add_zero] at c0 c1 c2
    go_wp2_with fail
    clear hW1 c0 c1 c2
    refine (hen _).mono ?_
    clear hen
    rintro e w2 ⟨rfl, hb2⟩
    go_wp2_with fail
    go_region
    go_wp2
    go_roundg (gk - 1)
    case measure => have := Hkn.out; omega
    case rel => exact ⟨1, out ++ E, by have := Hkn.out; omega, by go_num, HZV.out.symm, hnx, hnl, (hxE.trans hb2).drew⟩
   ·obtain ⟨j, rfl⟩ : ∃ j, k = j + 1 := ⟨k - 1, by omega⟩
    have hpv := hprev j rfl
    go_wp2_with fail
    clear hW1 c0 c1 c2
    refine (hen _).mono ?_
    clear hen
    rintro e w2 ⟨rfl, hb2⟩
    have hE2 := hxE.trans hb2
    obtain ⟨b', o', e', _, p0, _, _⟩ := (hR.ext hE2).bl (k := j) (by omega)
    injection e' with e'
    injection e' with e1 e2
    subst e1 e2
    have n1 := (hk1.ext hb2).cell
    have n2 := (hk1.ext hb2).lt
    have hb2' := Nat.lt_of_lt_of_le hb (Nat.le_trans hB1.size hb2.size)
    clear d1 hprev
    generalize (l[j]'(by omega)).kind = pk at *
    have dk : decide (kd <= pk) = false := decide_eq_false (by omega)
    have hj8 : j + 1 < 9 := by omega
    go_wp2_with fail
    go_region
    go_wp2
    go_roundg (gk - 1)
    case measure => have := Hkn.out; omega
    case rel => exact ⟨j + 1 + 1, out ++ E, by have := Hkn.out; omega, by go_num, HZV.out.symm, hnx, hnl, hE2.drew⟩
  ·obtain rfl : k = l.length := by have := Hkn.out; omega
   have HF := Lib.hid (show out = encAll l by rw [ho.out, HE.out, List.take_length])
   obtain ⟨oa, hoa, hov, hos⟩ := str_name out
   have HOV := Lib.hid hov
   rw [hov]
   clear hov hoa hos
   go_wp2
   go_ret2
   exact ⟨by rw [<- HF.out, HOV.out]; rfl, hE⟩
end Go.Proofs.YtemkpimngbbpkaaGreat
