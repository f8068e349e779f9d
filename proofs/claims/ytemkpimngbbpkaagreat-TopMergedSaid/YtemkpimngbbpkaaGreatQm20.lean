/- Layer 24 (journey): words for the walk of arrivals. · Update: the iterator over the changes that are not known. · Security: the bytes of a string, one by one. · Security: crc.update. -/
import Derived.RangeFuncNested
import Derived.RangeFuncOwn
import Derived.LoopIn
import Derived.RangeFuncLeaves
import Derived.Test.YtemkpimngbbpkaaGreatQm04
import Derived.Test.YtemkpimngbbpkaaGreatQm05
import Derived.Test.YtemkpimngbbpkaaGreatQm06
import Derived.Test.YtemkpimngbbpkaaGreatQm10
import Derived.Test.YtemkpimngbbpkaaGreatQm12
import Derived.Test.YtemkpimngbbpkaaGreatQm14
import Derived.Test.YtemkpimngbbpkaaGreatQm19
namespace Go.Proofs.YtemkpimngbbpkaaGreat
set_option linter.unusedVariables false
set_option linter.unusedSimpArgs false
set_option linter.unusedVariables false
open Go.RowKit Go.Shelf

theorem blk_alloc_iff (W : World) (o : Obj) (k : Nat) (t : TypeId) (cs : Array Value) : Blk (W.alloc o) k t cs ↔ if k = W.heap.size then o = .cells cs t (0, 0) else Blk W k t cs := by
  unfold Blk
  by_cases h : k = W.heap.size
  · subst h
    rw [if_pos rfl, World.alloc_heap_new]
    exact ⟨fun h => by injection h, fun h => by rw [h]⟩
  · rw [if_neg h]
    by_cases h2 : k < W.heap.size
    · rw [Below.heap_alloc W o k h2]
    · rw [Array.getElem?_eq_none (by simp; omega), Array.getElem?_eq_none (by omega)]
theorem blk_drew (W : World) (k : Nat) (t : TypeId) (cs : Array Value) : Blk W.drew k t cs ↔ Blk W k t cs := Iff.rfl
theorem Near.alloc {W w1 : World} (h : Near W w1) (o : Obj) : Near W (w1.alloc o) := .of (h.1.alloc o)
theorem blk_no0 (W : World) (t : TypeId) (cs : Array Value) : Blk W W.heap.size t cs ↔ False := ⟨fun h => absurd h.lt (by omega), False.elim⟩
end Go.Proofs.YtemkpimngbbpkaaGreat

namespace Go.Proofs.YtemkpimngbbpkaaGreat
set_option linter.unusedVariables false
set_option linter.unusedSimpArgs false
set_option linter.unusedVariables false
set_option linter.unusedSimpArgs false
open Go.RowKit Go.Shelf
attribute [local go_sem] Oper.semAt_some

def chV (x : Chg) : Array Value := #[.agg x.arr]
theorem miss_yes {l : List Chg} {v : List Int} {k : Nat} {x : Chg} (h : l[k]? = some x) (hg : gi v x.org < x.cnt) : missL (l.take (k + 1)) v = missL (l.take k) v ++ [x] := by
  rw [List.take_add_one, h]
  unfold missL
  simp [hg]
theorem miss_no {l : List Chg} {v : List Int} {k : Nat} {x : Chg} (h : l[k]? = some x) (hg : ¬ gi v x.org < x.cnt) : missL (l.take (k + 1)) v = missL (l.take k) v := by
  rw [List.take_add_one, h]
  unfold missL
  simp [hg]
set_option maxRecDepth 100000 in
set_option maxHeartbeats 8000000 in
theorem unk_iter (li Bh Bv n₁ : Nat) (S : Nat → Prop) (n : Int) (A : Option Addr) (cc : Nat) (l : List Chg) (B : Option Addr) (cv : Nat) (v : List Int) (w0 W : World) (hA : Rd EChg w0 A l) (hB : Rd EInt w0 B v) (hl : l.length ≤ 1000) (hv : v.length ≤ 16) (ho : ∀ x ∈ l, 0 ≤ x.org ∧ x.org < v.length)
    (h0 : Ext w0 W) (hn0 : w0.heap.size ≤ n₁) (hS0 : ∀ k, S k → w0.heap.size ≤ k) (hn1 : n₁ ≤ W.heap.size)
    (kh : Blk W Bh 56 #[.int .i64 n, .slice A l.length cc]) (kv : Blk W Bv 162 #[.slice B v.length cv]) (bh : Bh < n₁ ∧ ¬ S Bh) (bv : Bv < n₁ ∧ ¬ S Bv)
    (J Jx : List Chg → World → Prop) (hJ : AbidesFrom W.heap.size J)
    (hY : ∀ pre x W, J pre W → pre.length < 1000 → YieldAt Fence.wide 3 Tryz.prog li (chV x) W fun e W' =>
      (e = .returned (.bool true) ∧ J (pre ++ [x]) W' ∧ KpP n₁ S W W') ∨ (e = .returned (.bool false) ∧ Jx (pre ++ [x]) W'))
    (hj : J [] W) :
    CallsIn Fence.wide 4 Tryz.prog 235 #[.func (.yield li) #[] #[], .pointer (some ⟨Bh, 0, none⟩), .pointer (some ⟨Bv, 0, none⟩)] W fun e W' => (∃ u, e = .returned u) ∧
      ((∃ ys, ys = missL l v ∧ J ys W') ∨ (∃ pre : List Chg, True ∧ Jx pre W')) := by
  have hmix : Tryz.prog.follows .mixedOrders = true := by kernel_rfl
  have HO := Lib.hid ho
  clear ho
  have e1 := kh.cell
  have e2 := kh.lt
  refine callsIn_of_wp Tryz.func235 rfl trivial ?_ rfl
  simp only [Tryz.ntmps235, List.size_toArray, List.length_cons, List.length_nil, Nat.reduceAdd, Nat.reduceSub, Array.replicate_succ, Array.replicate_zero, List.push_toArray, List.append_toArray, List.nil_append, List.cons_append]
  gi_wp2
  clear e1 e2
  gi_loopw [9] (fun i wr => ∃ (k : Nat) (pre : List Chg), k ≤ l.length ∧ i = .int .i64 k ∧ Hid (pre = missL (l.take k) v) ∧ pre.length ≤ k ∧ J pre wr ∧ KpP n₁ S W wr) (fun i _ => l.length - (intOf i).toNat)
  case atStart => exact ⟨0, [], Nat.zero_le _, rfl, Lib.hid (by simp [missL]), Nat.le_refl _, hj, KpP.refl _ _ _⟩
  case round =>
    obtain ⟨k, pre, hk, rfl, Hpre, hpk, hjr, hK⟩ := hrel
    have hE := hK.ext h0 hn0 hS0
    have kh1 := hK.blk kh bh.1 bh.2
    have kv1 := hK.blk kv bv.1 bv.2
    have hsz := hK.size
    by_cases hlt : k < l.length
    · obtain ⟨b, o, rfl, hb, a0, a1, a2, a3, a4, a5, a6, a7, a8, a9, a10⟩ := (hA.ext hE).chg hlt
      obtain ⟨x0, x1⟩ := HO.out _ (List.getElem_mem hlt)
      have hxg : l[k]? = some l[k] := List.getElem?_eq_getElem hlt
      generalize l[k] = x at *
      have Hxg := Lib.hid hxg
      clear hxg
      obtain ⟨xo, xc, xs, xk, ⟨xsrc, xdst, xst, xen, xrate, xrng, xloss⟩⟩ := x
      dsimp only at a0 a1 a2 a3 a4 a5 a6 a7 a8 a9 a10 x0 x1
      obtain ⟨W3, hW3, hB3, hk3, hl3⟩ := box1 wr #[.int .i64 xo, .int .i64 xc, .int .i64 xs, .int .i64 xk, .int .i64 xsrc, .int .i64 xdst, .int .i64 xst, .int .i64 xen, .int .i64 xrate, .int .i64 xrng, .int .i64 xloss] 63
      obtain ⟨W4, hW4, hB4⟩ : ∃ W4, W3.drew = W4 ∧ Ext W3 W4 := ⟨_, rfl, (Ext.refl _).drew⟩
      have hB34 := hB3.trans hB4
      have hjr4 := abides_ext hJ hjr hB34
      have hK4 := hK.trans (KpP.of_ext (by omega) hB34)
      have k5 := hk3.ext hB4
      have c5 := k5.cell
      have kv4 := kv1.ext hB34
      have cv4 := kv4.cell
      have hR4 := (hB.ext hE).ext hB34
      obtain ⟨q, p, rfl, hq, -⟩ := hR4.int (k := xo.toNat) (by omega)
      obtain ⟨hq1, -⟩ := hR4.gi (i := xo) (by omega)
      obtain ⟨gv, hgv⟩ : ∃ gv, gi v xo = gv := ⟨_, rfl⟩
      rw [hgv] at hq1
      have HGV := Lib.hid hgv
      clear hgv
      by_cases hg : gv < xc
      · have hd : decide (gv < xc) = true := decide_eq_true hg
        have Hn := Lib.hid (miss_yes Hxg.out (v := v) (by rw [HGV.out]; exact hg))
        obtain ⟨fn, tmps, assign, body, hy, hR⟩ := hY pre ⟨xo, xc, xs, xk, ⟨xsrc, xdst, xst, xen, xrate, xrng, xloss⟩⟩ W4 hjr4 (by omega)
        dsimp only [chV, Chg.arr] at hy
        clear hg
        gi_wp2
        (try rw [hW3])
        refine wpIn_region_I (fun j => decide (11 ≤ j)) (fun w' => w' = W4) hmix hW4 (fun hSS => ?_)
        rw [hW4]
        clear hW3 hW4 hSS
        refine wpAnyI_takeT (i := 0) (v := ?_) rfl rfl (by kernel_rfl) (by kernel_rfl) (by kernel_rfl) (by kernel_rfl) (fun _ _ _ h => h) ⟨Or.inl ⟨by kernel_rfl, ?_⟩, fun _ => rfl⟩ ?_
        rotate_left
        · intro w'
          go_simp
          first | done | with_reducible rfl
        try simp only [Act.put, List.getElem_toArray, List.getElem_cons_succ, List.getElem_cons_zero, List.setIfInBounds_toArray, List.set_cons_zero, List.set_cons_succ]
        refine wpAnyI_take (i := 1) (v := ?_) rfl rfl (by kernel_rfl) (by kernel_rfl) (by kernel_rfl) (by kernel_rfl) (by kernel_rfl) (fun _ _ _ h => h) ⟨Or.inl ⟨by kernel_rfl, ?_⟩, fun _ => rfl⟩ rfl ?_
        rotate_left
        · intro w' hw'
          subst hw'
          go_simp
          first | done | with_reducible rfl
        try simp only [Act.put, List.getElem_toArray, List.getElem_cons_succ, List.getElem_cons_zero, List.setIfInBounds_toArray, List.set_cons_zero, List.set_cons_succ]
        refine wpAnyI_take (i := 2) (v := ?_) rfl rfl (by kernel_rfl) (by kernel_rfl) (by kernel_rfl) (by kernel_rfl) (by kernel_rfl) (fun _ _ _ h => h) ⟨Or.inl ⟨by kernel_rfl, ?_⟩, fun _ => rfl⟩ rfl ?_
        rotate_left
        · intro w' hw'
          subst hw'
          go_simp
          first | done | with_reducible rfl
        try simp only [Act.put, List.getElem_toArray, List.getElem_cons_succ, List.getElem_cons_zero, List.setIfInBounds_toArray, List.set_cons_zero, List.set_cons_succ]
        refine wpAnyI_takeT (i := 3) (v := ?_) rfl rfl (by kernel_rfl) (by kernel_rfl) (by kernel_rfl) (by kernel_rfl) (fun _ _ _ h => h) ⟨Or.inl ⟨by kernel_rfl, ?_⟩, fun _ => rfl⟩ ?_
        rotate_left
        · intro w'
          go_simp
          first | done | with_reducible rfl
        try simp only [Act.put, List.getElem_toArray, List.getElem_cons_succ, List.getElem_cons_zero, List.setIfInBounds_toArray, List.set_cons_zero, List.set_cons_succ]
        refine wpAnyI_take (i := 4) (v := ?_) rfl rfl (by kernel_rfl) (by kernel_rfl) (by kernel_rfl) (by kernel_rfl) (by kernel_rfl) (fun _ _ _ h => h) ⟨Or.inl ⟨by kernel_rfl, ?_⟩, fun _ => rfl⟩ rfl ?_
        rotate_left
        · intro w' hw'
          subst hw'
          go_simp
          first | done | with_reducible rfl
        try simp only [Act.put, List.getElem_toArray, List.getElem_cons_succ, List.getElem_cons_zero, List.setIfInBounds_toArray, List.set_cons_zero, List.set_cons_succ]
        refine wpAnyI_takeT (i := 5) (v := ?_) rfl rfl (by kernel_rfl) (by kernel_rfl) (by kernel_rfl) (by kernel_rfl) (fun _ _ _ h => h) ⟨Or.inl ⟨by kernel_rfl, ?_⟩, fun _ => rfl⟩ ?_
        rotate_left
        · intro w'
          go_simp
          first | done | with_reducible rfl
        try simp only [Act.put, List.getElem_toArray, List.getElem_cons_succ, List.getElem_cons_zero, List.setIfInBounds_toArray, List.set_cons_zero, List.set_cons_succ]
        refine wpAnyI_take (i := 6) (v := ?_) rfl rfl (by kernel_rfl) (by kernel_rfl) (by kernel_rfl) (by kernel_rfl) (by kernel_rfl) (fun _ _ _ h => h) ⟨Or.inl ⟨by kernel_rfl, ?_⟩, fun _ => rfl⟩ rfl ?_
        rotate_left
        · intro w' hw'
          subst hw'
          go_simp
          first | done | with_reducible rfl
        try simp only [Act.put, List.getElem_toArray, List.getElem_cons_succ, List.getElem_cons_zero, List.setIfInBounds_toArray, List.set_cons_zero, List.set_cons_succ]
        refine wpAnyI_takeT (i := 7) (v := ?_) rfl rfl (by kernel_rfl) (by kernel_rfl) (by kernel_rfl) (by kernel_rfl) (fun _ _ _ h => h) ⟨Or.inl ⟨by kernel_rfl, ?_⟩, fun _ => rfl⟩ ?_
        rotate_left
        · intro w'
          go_simp
          first | done | with_reducible rfl
        try simp only [Act.put, List.getElem_toArray, List.getElem_cons_succ, List.getElem_cons_zero, List.setIfInBounds_toArray, List.set_cons_zero, List.set_cons_succ]
        refine wpAnyI_takeT (i := 8) (v := ?_) rfl rfl (by kernel_rfl) (by kernel_rfl) (by kernel_rfl) (by kernel_rfl) (fun _ _ _ h => h) ⟨Or.inl ⟨by kernel_rfl, ?_⟩, fun _ => rfl⟩ ?_
        rotate_left
        · intro w'
          go_simp
          first | done | with_reducible rfl
        try simp only [Act.put, List.getElem_toArray, List.getElem_cons_succ, List.getElem_cons_zero, List.setIfInBounds_toArray, List.set_cons_zero, List.set_cons_succ]
        refine wpAnyI_takeT (i := 9) (v := ?_) rfl rfl (by kernel_rfl) (by kernel_rfl) (by kernel_rfl) (by kernel_rfl) (fun _ _ _ h => h) ⟨Or.inl ⟨by kernel_rfl, ?_⟩, fun _ => rfl⟩ ?_
        rotate_left
        · intro w'
          go_simp
          first | done | with_reducible rfl
        try simp only [Act.put, List.getElem_toArray, List.getElem_cons_succ, List.getElem_cons_zero, List.setIfInBounds_toArray, List.set_cons_zero, List.set_cons_succ]
        refine wpAnyI_take (i := 10) (v := ?_) rfl rfl (by kernel_rfl) (by kernel_rfl) (by kernel_rfl) (by kernel_rfl) (by kernel_rfl) (fun _ _ _ h => h) ⟨Or.inl ⟨by kernel_rfl, ?_⟩, fun _ => rfl⟩ rfl ?_
        rotate_left
        · intro w' hw'
          subst hw'
          go_simp
          first | done | with_reducible rfl
        try simp only [Act.put, List.getElem_toArray, List.getElem_cons_succ, List.getElem_cons_zero, List.setIfInBounds_toArray, List.set_cons_zero, List.set_cons_succ]
        refine wpAnyI_one (i := 11) (by kernel_rfl) rfl (fun K hK9 => ?_)
        go_simp
        refine hR.mono ?_
        rintro e W6 (⟨rfl, hJ6, hk6⟩ | ⟨rfl, hJx6⟩)
        · refine hK9 _ _ (fun h => by cases h) ?_
          clear hK9 K
          try simp only [Act.put, List.getElem_toArray, List.getElem_cons_succ, List.getElem_cons_zero, List.setIfInBounds_toArray, List.set_cons_zero, List.set_cons_succ]
          refine wpAnyI_takeT (i := 12) (v := ?_) rfl rfl (by kernel_rfl) (by kernel_rfl) (by kernel_rfl) (by kernel_rfl) (fun _ _ _ h => h) ⟨Or.inl ⟨by kernel_rfl, ?_⟩, fun _ => rfl⟩ ?_
          rotate_left
          · intro w'
            go_simp
            first | done | with_reducible rfl
          try simp only [Act.put, List.getElem_toArray, List.getElem_cons_succ, List.getElem_cons_zero, List.setIfInBounds_toArray, List.set_cons_zero, List.set_cons_succ]
          refine wpAnyI_takeT (i := 13) (v := ?_) rfl rfl (by kernel_rfl) (by kernel_rfl) (by kernel_rfl) (by kernel_rfl) (fun _ _ _ h => h) ⟨Or.inl ⟨by kernel_rfl, ?_⟩, fun _ => rfl⟩ ?_
          rotate_left
          · intro w'
            go_simp
            first | done | with_reducible rfl
          try simp only [Act.put, List.getElem_toArray, List.getElem_cons_succ, List.getElem_cons_zero, List.setIfInBounds_toArray, List.set_cons_zero, List.set_cons_succ]
          refine wpAnyI_done (by kernel_rfl) ?_ _
          gi_wp2
          go_roundw
          case rel => exact ⟨k + 1, _, by omega, by go_num, Lib.hid (by rw [Hn.out, ← Hpre.out]), by simp; omega, hJ6, hK4.trans hk6⟩
          case measure => simp [intOf]; omega
        · refine hK9 _ _ (fun h => by cases h) ?_
          clear hK9 K
          try simp only [Act.put, List.getElem_toArray, List.getElem_cons_succ, List.getElem_cons_zero, List.setIfInBounds_toArray, List.set_cons_zero, List.set_cons_succ]
          refine wpAnyI_takeT (i := 12) (v := ?_) rfl rfl (by kernel_rfl) (by kernel_rfl) (by kernel_rfl) (by kernel_rfl) (fun _ _ _ h => h) ⟨Or.inl ⟨by kernel_rfl, ?_⟩, fun _ => rfl⟩ ?_
          rotate_left
          · intro w'
            go_simp
            first | done | with_reducible rfl
          try simp only [Act.put, List.getElem_toArray, List.getElem_cons_succ, List.getElem_cons_zero, List.setIfInBounds_toArray, List.set_cons_zero, List.set_cons_succ]
          refine wpAnyI_takeT (i := 13) (v := ?_) rfl rfl (by kernel_rfl) (by kernel_rfl) (by kernel_rfl) (by kernel_rfl) (fun _ _ _ h => h) ⟨Or.inl ⟨by kernel_rfl, ?_⟩, fun _ => rfl⟩ ?_
          rotate_left
          · intro w'
            go_simp
            first | done | with_reducible rfl
          try simp only [Act.put, List.getElem_toArray, List.getElem_cons_succ, List.getElem_cons_zero, List.setIfInBounds_toArray, List.set_cons_zero, List.set_cons_succ]
          refine wpAnyI_done (by kernel_rfl) ?_ _
          gi_wp2
          refine bodyPost_ret (results_none rfl _ _ _) rfl ?_
          exact ⟨⟨_, rfl⟩, .inr ⟨_, trivial, hJx6⟩⟩
      · have hd : decide (gv < xc) = false := decide_eq_false hg
        have Hn := Lib.hid (miss_no Hxg.out (v := v) (by rw [HGV.out]; exact hg))
        clear hg
        gi_wp2
        (try rw [hW3])
        refine wpIn_region_I (fun j => decide (11 ≤ j)) (fun w' => w' = W4) hmix hW4 (fun hSS => ?_)
        rw [hW4]
        clear hW3 hW4 hSS
        refine wpAnyI_takeT (i := 0) (v := ?_) rfl rfl (by kernel_rfl) (by kernel_rfl) (by kernel_rfl) (by kernel_rfl) (fun _ _ _ h => h) ⟨Or.inl ⟨by kernel_rfl, ?_⟩, fun _ => rfl⟩ ?_
        rotate_left
        · intro w'
          go_simp
          first | done | with_reducible rfl
        try simp only [Act.put, List.getElem_toArray, List.getElem_cons_succ, List.getElem_cons_zero, List.setIfInBounds_toArray, List.set_cons_zero, List.set_cons_succ]
        refine wpAnyI_take (i := 1) (v := ?_) rfl rfl (by kernel_rfl) (by kernel_rfl) (by kernel_rfl) (by kernel_rfl) (by kernel_rfl) (fun _ _ _ h => h) ⟨Or.inl ⟨by kernel_rfl, ?_⟩, fun _ => rfl⟩ rfl ?_
        rotate_left
        · intro w' hw'
          subst hw'
          go_simp
          first | done | with_reducible rfl
        try simp only [Act.put, List.getElem_toArray, List.getElem_cons_succ, List.getElem_cons_zero, List.setIfInBounds_toArray, List.set_cons_zero, List.set_cons_succ]
        refine wpAnyI_take (i := 2) (v := ?_) rfl rfl (by kernel_rfl) (by kernel_rfl) (by kernel_rfl) (by kernel_rfl) (by kernel_rfl) (fun _ _ _ h => h) ⟨Or.inl ⟨by kernel_rfl, ?_⟩, fun _ => rfl⟩ rfl ?_
        rotate_left
        · intro w' hw'
          subst hw'
          go_simp
          first | done | with_reducible rfl
        try simp only [Act.put, List.getElem_toArray, List.getElem_cons_succ, List.getElem_cons_zero, List.setIfInBounds_toArray, List.set_cons_zero, List.set_cons_succ]
        refine wpAnyI_takeT (i := 3) (v := ?_) rfl rfl (by kernel_rfl) (by kernel_rfl) (by kernel_rfl) (by kernel_rfl) (fun _ _ _ h => h) ⟨Or.inl ⟨by kernel_rfl, ?_⟩, fun _ => rfl⟩ ?_
        rotate_left
        · intro w'
          go_simp
          first | done | with_reducible rfl
        try simp only [Act.put, List.getElem_toArray, List.getElem_cons_succ, List.getElem_cons_zero, List.setIfInBounds_toArray, List.set_cons_zero, List.set_cons_succ]
        refine wpAnyI_take (i := 4) (v := ?_) rfl rfl (by kernel_rfl) (by kernel_rfl) (by kernel_rfl) (by kernel_rfl) (by kernel_rfl) (fun _ _ _ h => h) ⟨Or.inl ⟨by kernel_rfl, ?_⟩, fun _ => rfl⟩ rfl ?_
        rotate_left
        · intro w' hw'
          subst hw'
          go_simp
          first | done | with_reducible rfl
        try simp only [Act.put, List.getElem_toArray, List.getElem_cons_succ, List.getElem_cons_zero, List.setIfInBounds_toArray, List.set_cons_zero, List.set_cons_succ]
        refine wpAnyI_takeT (i := 5) (v := ?_) rfl rfl (by kernel_rfl) (by kernel_rfl) (by kernel_rfl) (by kernel_rfl) (fun _ _ _ h => h) ⟨Or.inl ⟨by kernel_rfl, ?_⟩, fun _ => rfl⟩ ?_
        rotate_left
        · intro w'
          go_simp
          first | done | with_reducible rfl
        try simp only [Act.put, List.getElem_toArray, List.getElem_cons_succ, List.getElem_cons_zero, List.setIfInBounds_toArray, List.set_cons_zero, List.set_cons_succ]
        refine wpAnyI_take (i := 6) (v := ?_) rfl rfl (by kernel_rfl) (by kernel_rfl) (by kernel_rfl) (by kernel_rfl) (by kernel_rfl) (fun _ _ _ h => h) ⟨Or.inl ⟨by kernel_rfl, ?_⟩, fun _ => rfl⟩ rfl ?_
        rotate_left
        · intro w' hw'
          subst hw'
          go_simp
          first | done | with_reducible rfl
        try simp only [Act.put, List.getElem_toArray, List.getElem_cons_succ, List.getElem_cons_zero, List.setIfInBounds_toArray, List.set_cons_zero, List.set_cons_succ]
        refine wpAnyI_takeT (i := 7) (v := ?_) rfl rfl (by kernel_rfl) (by kernel_rfl) (by kernel_rfl) (by kernel_rfl) (fun _ _ _ h => h) ⟨Or.inl ⟨by kernel_rfl, ?_⟩, fun _ => rfl⟩ ?_
        rotate_left
        · intro w'
          go_simp
          first | done | with_reducible rfl
        try simp only [Act.put, List.getElem_toArray, List.getElem_cons_succ, List.getElem_cons_zero, List.setIfInBounds_toArray, List.set_cons_zero, List.set_cons_succ]
        refine wpAnyI_takeT (i := 8) (v := ?_) rfl rfl (by kernel_rfl) (by kernel_rfl) (by kernel_rfl) (by kernel_rfl) (fun _ _ _ h => h) ⟨Or.inl ⟨by kernel_rfl, ?_⟩, fun _ => rfl⟩ ?_
        rotate_left
        · intro w'
          go_simp
          first | done | with_reducible rfl
        try simp only [Act.put, List.getElem_toArray, List.getElem_cons_succ, List.getElem_cons_zero, List.setIfInBounds_toArray, List.set_cons_zero, List.set_cons_succ]
        refine wpAnyI_takeT (i := 9) (v := undef) rfl rfl (by kernel_rfl) (by kernel_rfl) (by kernel_rfl) (by kernel_rfl) (fun _ _ _ h => h) ⟨Or.inr ⟨by rfl, rfl⟩, fun _ => rfl⟩ ?_
        try simp only [Act.put, List.getElem_toArray, List.getElem_cons_succ, List.getElem_cons_zero, List.setIfInBounds_toArray, List.set_cons_zero, List.set_cons_succ]
        refine wpAnyI_takeT (i := 10) (v := undef) rfl rfl (by kernel_rfl) (by kernel_rfl) (by kernel_rfl) (by kernel_rfl) (fun _ _ _ h => h) ⟨Or.inr ⟨by rfl, rfl⟩, fun _ => rfl⟩ ?_
        try simp only [Act.put, List.getElem_toArray, List.getElem_cons_succ, List.getElem_cons_zero, List.setIfInBounds_toArray, List.set_cons_zero, List.set_cons_succ]
        refine wpAnyI_takeT (i := 11) (v := undef) rfl rfl (by kernel_rfl) (by kernel_rfl) (by kernel_rfl) (by kernel_rfl) (fun _ _ _ h => h) ⟨Or.inr ⟨by rfl, rfl⟩, fun _ => rfl⟩ ?_
        try simp only [Act.put, List.getElem_toArray, List.getElem_cons_succ, List.getElem_cons_zero, List.setIfInBounds_toArray, List.set_cons_zero, List.set_cons_succ]
        refine wpAnyI_takeT (i := 12) (v := undef) rfl rfl (by kernel_rfl) (by kernel_rfl) (by kernel_rfl) (by kernel_rfl) (fun _ _ _ h => h) ⟨Or.inr ⟨by rfl, rfl⟩, fun _ => rfl⟩ ?_
        try simp only [Act.put, List.getElem_toArray, List.getElem_cons_succ, List.getElem_cons_zero, List.setIfInBounds_toArray, List.set_cons_zero, List.set_cons_succ]
        refine wpAnyI_takeT (i := 13) (v := ?_) rfl rfl (by kernel_rfl) (by kernel_rfl) (by kernel_rfl) (by kernel_rfl) (fun _ _ _ h => h) ⟨Or.inl ⟨by kernel_rfl, ?_⟩, fun _ => rfl⟩ ?_
        rotate_left
        · intro w'
          go_simp
          first | done | with_reducible rfl
        try simp only [Act.put, List.getElem_toArray, List.getElem_cons_succ, List.getElem_cons_zero, List.setIfInBounds_toArray, List.set_cons_zero, List.set_cons_succ]
        refine wpAnyI_done (by kernel_rfl) ?_ _
        gi_wp2
        go_roundw
        case rel => exact ⟨k + 1, pre, by omega, by go_num, Lib.hid (by rw [Hn.out]; exact Hpre.out), by omega, hjr4, hK4⟩
        case measure => simp [intOf]; omega
    · gi_wp2
      go_end0
      exact ⟨⟨_, rfl⟩, .inl ⟨pre, by rw [Hpre.out, List.take_of_length_le (by omega)], hjr⟩⟩

theorem unk_stops (Bh Bv n₁ : Nat) (S : Nat → Prop) (n : Int) (A : Option Addr) (cc : Nat) (l : List Chg) (B : Option Addr) (cv : Nat) (v : List Int) (w0 w : World) (hA : Rd EChg w0 A l) (hB : Rd EInt w0 B v) (hl : l.length ≤ 1000) (hv : v.length ≤ 16) (ho : ∀ x ∈ l, 0 ≤ x.org ∧ x.org < v.length)
    (h0 : Ext w0 w) (hn0 : w0.heap.size ≤ n₁) (hS0 : ∀ k, S k → w0.heap.size ≤ k) (hn1 : n₁ ≤ w.heap.size)
    (kh : Blk w Bh 56 #[.int .i64 n, .slice A l.length cc]) (kv : Blk w Bv 162 #[.slice B v.length cv]) (bh : Bh < n₁ ∧ ¬ S Bh) (bv : Bv < n₁ ∧ ¬ S Bv) :
    SeqStopsK Fence.wide 4 Tryz.prog 235 #[.pointer (some ⟨Bh, 0, none⟩), .pointer (some ⟨Bv, 0, none⟩)] chV (KpP n₁ S) (fun ys => ys = missL l v) (fun _ => True) 1000 w :=
  fun li J Jx W hW hJ _ hY hj => unk_iter li Bh Bv n₁ S n A cc l B cv v w0 W hA hB hl hv ho (h0.trans hW) hn0 hS0 (Nat.le_trans hn1 (Ext.size hW)) (kh.ext hW) (kv.ext hW) bh bv J Jx hJ hY hj
end Go.Proofs.YtemkpimngbbpkaaGreat

namespace Go.Proofs.YtemkpimngbbpkaaGreat
set_option linter.unusedVariables false
set_option linter.unusedSimpArgs false
set_option linter.unusedVariables false
set_option linter.unusedSimpArgs false
open Go.RowKit
attribute [local go_sem] Oper.semAt_some

def byV (x : UInt8) : Array Value := #[.int .u8 (x.toNat : Int)]
def ByF (s : Bts) (ys : Bts) : Prop := ys = s

theorem ba_size (s : Bts) : (⟨s.toArray⟩ : ByteArray).size = s.length := by
  show s.toArray.size = s.length
  simp
theorem ba_get (s : Bts) (i : Nat) (h : i < s.length) (h' : i < (⟨s.toArray⟩ : ByteArray).size) : (⟨s.toArray⟩ : ByteArray)[i]'h' = s[i] := rfl

set_option maxRecDepth 100000 in
set_option maxHeartbeats 4000000 in
theorem bytes_iter (l B n₁ : Nat) (S : Nat → Prop) (s : Bts) (W : World) (hz : s.length ≤ 1000000) (kb : Blk W B 9 #[strV s]) (hB : B < n₁ ∧ ¬ S B)
    (J Jx : Bts → World → Prop)
    (hY : ∀ pre x W, J pre W → pre.length < 1000001 → YieldAt Fence.wide 3 Tryz.prog l (byV x) W fun e W' =>
      (e = .returned (.bool true) ∧ J (pre ++ [x]) W' ∧ KpP n₁ S W W') ∨ (e = .returned (.bool false) ∧ Jx (pre ++ [x]) W'))
    (hj : J [] W) :
    CallsIn Fence.wide 4 Tryz.prog 337 #[.func (.yield l) #[] #[], .pointer (some ⟨B, 0, none⟩)] W fun e W' => (∃ v, e = .returned v) ∧
      ((∃ ys : Bts, ByF s ys ∧ J ys W') ∨ (∃ pre : Bts, True ∧ Jx pre W')) := by
  have c1 := kb.cell
  have c2 := kb.lt
  have hsz := ba_size s
  obtain ⟨n, hn⟩ : ∃ n, s.length = n := ⟨_, rfl⟩
  rw [hn] at hsz hz
  obtain ⟨ba, hba, hge⟩ : ∃ ba : ByteArray, ⟨s.toArray⟩ = ba ∧ ∀ (i : Nat) (h : i < s.length) (h' : i < ba.size), ba[i]'h' = s[i]'h := ⟨_, rfl, fun i h h' => ba_get s i h h'⟩
  rw [hba] at hsz
  unfold strV at kb c1
  rw [hba] at kb c1
  have HN := Lib.hid hn
  clear hn hba
  refine callsIn_of_wp Tryz.func337 rfl trivial ?_ rfl
  simp only [Tryz.ntmps337, List.size_toArray, List.length_cons, List.length_nil, Nat.reduceAdd, Nat.reduceSub, Array.replicate_succ, Array.replicate_zero, List.push_toArray, List.append_toArray, List.nil_append, List.cons_append]
  gi_wp2
  clear c1 c2
  gi_loopw [6] (fun v wx => ∃ i : Nat, i ≤ n ∧ v = .int .i64 i ∧ J (s.take i) wx ∧ Blk wx B 9 #[.string ba]) (fun v _ => n - (intOf v).toNat)
  case atStart => exact ⟨0, Nat.zero_le _, by go_num, by simpa using hj, kb⟩
  case round =>
    obtain ⟨i, hin, rfl, hjr, kx⟩ := hrel
    have c1 := kx.cell
    have c2 := kx.lt
    by_cases hlt : i < n
    · have hlen : i < s.length := by rw [HN.out]; exact hlt
      have hg := hge i hlen
      obtain ⟨x, hx⟩ : ∃ x, s[i] = x := ⟨_, rfl⟩
      have hst := Lib.hid (show s.take (i + 1) = s.take i ++ [x] by rw [← hx, List.take_append_getElem])
      rw [hx] at hg
      obtain ⟨fn, tmps, assign, body, hy, hR⟩ := hY (s.take i) x wr hjr (by rw [List.length_take]; omega)
      dsimp only [byV] at hy
      clear hx hlen hge
      gi_wp2
      refine hR.mono ?_
      rintro e W6 (⟨rfl, hJ6, hk6⟩ | ⟨rfl, hJx6⟩)
      · have kx6 := hk6.blk kx hB.1 hB.2
        clear c1 c2
        gi_wp2
        go_roundw
        case rel => exact ⟨i + 1, by omega, by go_num, by rw [hst.out]; exact hJ6, kx6⟩
        case measure => simp [intOf]; omega
      · gi_wp2
        refine bodyPost_ret (results_none rfl _ _ _) rfl ?_
        exact ⟨⟨_, rfl⟩, .inr ⟨_, trivial, hJx6⟩⟩
    · obtain rfl : i = n := by omega
      gi_wp2
      go_end0
      exact ⟨⟨_, rfl⟩, .inl ⟨s, rfl, by rw [List.take_of_length_le (by rw [HN.out]; exact Nat.le_refl _)] at hjr; exact hjr⟩⟩

theorem bytes_stops (B n₁ : Nat) (S : Nat → Prop) (s : Bts) (w : World) (hz : s.length ≤ 1000000) (kb : Blk w B 9 #[strV s]) (hB : B < n₁ ∧ ¬ S B) :
    SeqStopsK Fence.wide 4 Tryz.prog 337 #[.pointer (some ⟨B, 0, none⟩)] byV (KpP n₁ S) (ByF s) (fun _ => True) 1000001 w :=
  fun l J Jx W hW _ _ hY hj => bytes_iter l B n₁ S s W hz (kb.ext hW) hB J Jx hY hj

set_option maxHeartbeats 400000 in
theorem bytes_any (s : Bts) (w : World) :
    Calls Tryz.prog 328 #[strV s] w fun e w' => e = .returned (.func (.func 337) #[] #[.pointer (some ⟨w.heap.size, 0, none⟩)]) ∧ Ext w w' ∧ w'.heap.size = w.heap.size + 1 ∧ Blk w' w.heap.size 9 #[strV s] := by
  obtain ⟨v, hv⟩ : ∃ v, (⟨s.toArray⟩ : ByteArray) = v := ⟨_, rfl⟩
  unfold strV
  rw [hv]
  obtain ⟨W1, hW1, hB1, hk1, hl1⟩ := box1 w #[.string v] 9
  have s1 : W1.heap.size = w.heap.size + 1 := by rw [← hW1]; simp
  have S1 := Lib.hid s1
  clear s1 hv
  go_enter Tryz.func328, Tryz.ntmps328
  go_wp2
  go_ret
  exact ⟨rfl, hB1, S1.out, hk1⟩

end Go.Proofs.YtemkpimngbbpkaaGreat

namespace Go.Proofs.YtemkpimngbbpkaaGreat
set_option linter.unusedVariables false
set_option linter.unusedSimpArgs false
set_option linter.unusedVariables false
set_option linter.unusedSimpArgs false
open Go.RowKit Go.Shelf
attribute [local go_sem] Oper.semAt_some

def CRl (r : UInt32) (bo bt b1 : Nat) (W0 : World) (pre : Bts) (W : World) : Prop := Blk W bo 335 #[.int .u32 ((crcU r pre).toNat : Int)] ∧ Blk W bt 445 (tabV tabL) ∧ Ext W0 W ∧ b1 ≤ W.heap.size
theorem crl_own {r : UInt32} {bo bt b1 B : Nat} {W0 : World} (hB : W0.heap.size ≤ B) : OwnFrom B (CRl r bo bt b1 W0) := by
  intro pre X Y row hs hg hr
  obtain ⟨h1, h2, h3, h4⟩ := hs
  exact ⟨h1.keptc hg (fun r e => (hr r e).2), h2.keptc hg (fun r e => (hr r e).2), h3.keptb hg (fun r e => Nat.le_trans hB (hr r e).1), Nat.le_trans h4 hg.size⟩
theorem u8lt (a : UInt8) : a.toNat < 256 := a.toNat_lt
theorem tabL_get (i : UInt8) : tabL[i.toNat]'(by rw [tabL_len]; exact u8lt i) = cst i.toUInt32 := by
  simp only [tabL, List.getElem_map, List.getElem_range]
  congr 1
  apply UInt32.toNat_inj.1
  rw [UInt8.toNat_toUInt32, UInt32.toNat_ofNat']
  have := u8lt i
  omega
theorem crcU_snoc (r : UInt32) (pre : Bts) (x : UInt8) : crcU r (pre ++ [x]) = (crcU r pre >>> 8) ^^^ cst ((crcU r pre).toUInt8 ^^^ x).toUInt32 := by
  unfold crcU
  rw [List.foldl_append]
  rfl
theorem crl_put {r : UInt32} {bo bt b1 : Nat} {W0 W : World} {pre : Bts} {x : UInt8} {y : UInt32} (h : CRl r bo bt b1 W0 pre W) (hy : crcU r (pre ++ [x]) = y) (hne : bo ≠ bt) (hbo : W0.heap.size ≤ bo) :
    KeepsFrom b1 W (W.setCell ⟨bo, 0, none⟩ (.int .u32 (y.toNat : Int))).drew ∧ KpP b1 (fun b => b = bo) W (W.setCell ⟨bo, 0, none⟩ (.int .u32 (y.toNat : Int))).drew ∧ CRl r bo bt b1 W0 (pre ++ [x]) (W.setCell ⟨bo, 0, none⟩ (.int .u32 (y.toNat : Int))).drew := by
  obtain ⟨h1, h2, h3, h4⟩ := h
  have hd : Ext (W.setCell ⟨bo, 0, none⟩ (.int .u32 (y.toNat : Int))) (W.setCell ⟨bo, 0, none⟩ (.int .u32 (y.toNat : Int))).drew := (Ext.refl _).drew
  have hs1 : W.heap.size ≤ (W.setCell ⟨bo, 0, none⟩ (.int .u32 (y.toNat : Int))).heap.size := by simp
  refine ⟨((KeepsOthers.setCell W ⟨bo, 0, none⟩ _).trans hd.keeps).from _, KpP.trans (KpP.setCell (S := fun b => b = bo) (KpP.refl _ _ _) (.inl rfl) _ _) (KpP.of_ext (Nat.le_trans h4 hs1) hd), ?_, (h2.far (fun e => hne (by simpa using e.symm)) _).ext hd, (h3.setCell hbo _).trans hd, Nat.le_trans (Nat.le_trans h4 hs1) hd.size⟩
  rw [hy]
  exact (h1.set0 _).ext hd

set_option maxRecDepth 100000 in
set_option maxHeartbeats 16000000 in
theorem update_any (r : UInt32) (s : Bts) (w : World) (h : s.length ≤ 1000000) :
    Calls Tryz.prog 302 #[.int .u32 r.toNat, strV s] w fun e w' => e = .returned (.int .u32 (crcU r s).toNat) ∧ Ext w w' := by
  obtain ⟨Z, hZ⟩ : ∃ Z, tabV (List.replicate 256 0) = Z := ⟨_, rfl⟩
  have hz := (zero_of_info (P := Tryz.prog) tab_info).1
  rw [hZ] at hz
  have hZs : Z.size = 256 := by rw [← hZ, tabV_size]; simp
  have HZ := Lib.hid hZ
  clear hZ
  obtain ⟨W1, hW1, hB1, hk1, hl1⟩ := box1 w #[.int .u32 (r.toNat : Int)] 335
  have f1 := fun w => table_any w
  have f2 := fun w => bytes_any s w
  have hs3 := fun B n₁ S w kb hB => bytes_stops B n₁ S s w h kb hB
  obtain ⟨sv, hsv⟩ : ∃ sv, strV s = sv := ⟨_, rfl⟩
  rw [hsv] at f2 hs3 ⊢
  clear hsv h
  refine (callsIn_wide (n := 5)).1 ?_
  refine callsIn_of_wp_marks Tryz.func302 rfl trivial ?_ rfl
  refine wpIn_wide.2 ?_
  refine Code.wp_mono NoPanic.imp ?_
  simp only [Tryz.ntmps302, List.size_toArray, List.length_cons, List.length_nil, Nat.reduceAdd, Nat.reduceSub, Array.replicate_succ, Array.replicate_zero, List.push_toArray, List.append_toArray, List.nil_append, List.cons_append]
  go_wp2_with fail
  clear hW1
  refine (f1 _).mono ?_
  clear f1
  rintro e w2 ⟨rfl, hb2⟩
  obtain ⟨W3, hW3, hB3, hk3, hl3⟩ := box1 w2 Z 445
  go_wp2_with (first | (refine wpList_storeT (T := List.replicate 256 0) rfl rfl rfl rfl (by rw [HZ.out]; exact hk3) (by simp) tabL_len ?_; intro W4 hg4 hk4))
  have hE24 : Ext w2 W4 := hB3.keptb hg4 (by rintro r ⟨rfl⟩; exact Nat.le_refl _)
  have kb4 := (hk1.ext hb2).ext hE24
  have hs24 := hE24.size
  have l4 := hk4.lt
  clear hW3 hg4
  refine (f2 _).mono ?_
  clear f2
  rintro e w8 ⟨rfl, hb8, hs8, z1⟩
  go_wp2_with fail
  have hs12 := hb2.size
  refine (wpIn_wide (n := 5)).1 ?_
  refine wpIn_rangeFunc_ownH rfl (by omega) (gf := 337) (lb := #[.pointer (some ⟨W4.heap.size, 0, none⟩)]) rfl trivial (enters_of Tryz.func337 (by kernel_rfl) rfl)
    (hs3 W4.heap.size w8.heap.size (fun b => b = w.heap.size) w8 z1 ⟨by omega, by omega⟩)
    KpP.trans (fun W l o o' hl _ _ _ => KpP.put W l o' hl) (Below.refl _ _) (fun _ => rfl)
    (CRl r w.heap.size w2.heap.size w8.heap.size w) (fun _ _ _ => False) (crl_own (by have := hB1.size; have := hb8.size; omega)) (fun _ _ _ _ _ hs _ _ => hs)
    ⟨kb4.ext hb8, hk4.ext hb8, ((hB1.trans hb2).trans hE24).trans hb8, Nat.le_refl _⟩
    (fun x a' _ => a' = { tmps := #[.int .u32 (r.toNat : Int), sv, .pointer (some ⟨w.heap.size, 0, none⟩), undef, .int .u32 0, .pointer (some ⟨w2.heap.size, 0, none⟩), .int .u8 (x.toNat : Int), .agg (tabV tabL), sv, .func (.func 337) #[] #[.pointer (some ⟨W4.heap.size, 0, none⟩)], .int .u8 (x.toNat : Int), undef, undef, undef, undef, undef, undef, undef, undef, undef, undef], defers := [] }) (fun _ _ _ _ _ _ hs _ _ => hs) ?assign ?body ?done ?stop
  case assign =>
    rintro li pre x W K hi hK
    simp only [byV]
    gi_wp2
    exact hK _ _ (KeepsFrom.refl _ _) (KpP.refl _ _ _) hi rfl
  case body =>
    rintro li pre x a' W hl _ hC rfl hlen
    obtain ⟨h1, h2, h3, h4⟩ := id hC
    have hsn := crcU_snoc r pre x
    obtain ⟨c, hc⟩ : ∃ c, crcU r pre = c := ⟨_, rfl⟩
    rw [hc] at h1 hsn
    obtain ⟨c1, hc1⟩ : ∃ c1, c >>> 8 = c1 := ⟨_, rfl⟩
    obtain ⟨c2, hc2⟩ : ∃ c2, c.toUInt8 = c2 := ⟨_, rfl⟩
    obtain ⟨ix, hix⟩ : ∃ ix, c2 ^^^ x = ix := ⟨_, rfl⟩
    obtain ⟨t, ht⟩ : ∃ t, cst ix.toUInt32 = t := ⟨_, rfl⟩
    obtain ⟨y, hy⟩ : ∃ y, c1 ^^^ t = y := ⟨_, rfl⟩
    rw [hc1, hc2, hix, ht, hy] at hsn
    have q1 : (c.toNat : Int) / 256 = (c1.toNat : Int) := by
      have h9 : (c >>> 8).toNat = c.toNat / 256 := by rw [UInt32.toNat_shiftRight, Nat.shiftRight_eq_div_pow]; rfl
      rw [← hc1, h9]
      rfl
    have q2 : (c.toNat : Int) % 256 = (c2.toNat : Int) := by
      rw [← hc2]
      rfl
    have q5 : IntKind.u8.wrap (c.toNat : Int) = (c2.toNat : Int) := by rw [IntKind.wrap_u8']; exact q2
    have q3 : bits .xor .u8 (c2.toNat : Int) (x.toNat : Int) = (ix.toNat : Int) := by rw [u8_xor_nat _ _ (u8lt _) (u8lt _), ← UInt8.toNat_xor, hix]
    have q4 : bits .xor .u32 (c1.toNat : Int) (t.toNat : Int) = (y.toNat : Int) := by rw [u32_xor, hy]
    have hiL : ix.toNat < tabL.length := by rw [tabL_len]; exact u8lt ix
    have a3 := (h2.cell ix.toNat).trans (tabV_get hiL)
    rw [tabL_get, ht] at a3
    have hPUT := Lib.hid (crl_put hC hsn (show w.heap.size ≠ w2.heap.size by omega) (Nat.le_refl _))
    have i2 : ix.toNat < 256 := u8lt ix
    generalize ix.toNat = n at *
    have i0 : (0 : Int) ≤ (n : Int) := by omega
    have i1 : (n : Int) < 256 := by omega
    have a1 := h1.cell
    have a2 := h1.lt
    have a4 := h2.lt
    have a5 := h1.frozen
    clear hc hc1 hc2 hix ht hy hsn hiL hC h1 h2
    gi_wp2_with fail
    gi_region
    all_goals
      have FIN := hPUT.out
      clear hPUT a1 a2 a3 a4 a5
      generalize (World.setCell W ⟨w.heap.size, 0, none⟩ (.int .u32 (y.toNat : Int))).drew = WX at *
      gi_wp2
      exact FIN
  case stop =>
    rintro D c pre W _ _ h _
    exact h.elim
  case done =>
    rintro D xs W hDD hF ⟨h1, h2, h3, h4⟩ hK
    obtain rfl : xs = s := hF
    have hd2 := (DSx.nil w8.heap.size w.heap.size W).cons hDD (by have := h3.size; have := hB1.size; have := hb8.size; omega) hK
    clear hK
    have a1 := h1.cell
    have a2 := h1.lt
    go_wp2_with fail
    show LeavesInM _ _ _ _ _ _ _ .returning _
    refine hd2.leaves ?_
    intro w' hw'
    have hfin := hw' (fun W => Ext w W) (fun s X Y row hs hg hr => hs.keptb hg (fun r e => (hr r e).1)) h3
    exact ⟨_, results_tmp rfl _ _ _, rfl, hfin⟩

end Go.Proofs.YtemkpimngbbpkaaGreat
