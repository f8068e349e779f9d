/- Layer 24 (journey): words for the walk of arrivals. · Decoding, plain: what the readers answer, and that they read what was encoded. · Decoding: varint's reader. · Forwarding, plain: what the readers of blocks answer; what forwarding keeps. · Layer 24 (journey): the walk of valid. · Layer 24 (journey): the walks of slices.Contains of numbers and of Check. · The checksum finds one changed byte. -/
import Derived.Test.YtemkpimngbbpkaaGreatQs01
import Derived.Test.YtemkpimngbbpkaaGreatQs05
import Derived.Test.YtemkpimngbbpkaaGreatQs07
import Derived.Test.YtemkpimngbbpkaaGreatQs08
import Derived.Test.YtemkpimngbbpkaaGreatQs09
import Derived.Test.YtemkpimngbbpkaaGreatQs13
import Derived.Test.YtemkpimngbbpkaaGreatQs15
namespace Go.Proofs.YtemkpimngbbpkaaGreat
set_option linter.unusedVariables false
set_option linter.unusedSimpArgs false
section
open Go.RowKit Go.Shelf
theorem blk_alloc_iff (W : World) (o : Obj) (k : Nat) (t : TypeId) (cs : Array Value) : Blk (W.alloc o) k t cs ↔ if k = W.heap.size then o = .cells cs t (0, 0) else Blk W k t cs := by
 unfold Blk
 by_cases h : k = W.heap.size
 ·subst h
  rw [if_pos rfl, World.alloc_heap_new]
  exact ⟨fun h => by injection h, fun h => by rw [h]⟩
 ·rw [if_neg h]
  by_cases h2 : k < W.heap.size
  ·rw [Below.heap_alloc W o k h2]
  ·rw [Array.getElem?_eq_none (by simp; omega), Array.getElem?_eq_none (by omega)]
theorem blk_drew (W : World) (k : Nat) (t : TypeId) (cs : Array Value) : Blk W.drew k t cs ↔ Blk W k t cs := Iff.rfl
theorem Near.alloc {W w1 : World} (h : Near W w1) (o : Obj) : Near W (w1.alloc o) := .of (h.1.alloc o)
theorem ne2 (a : Nat) : (a = a + 1 + 1) ↔ False := ⟨fun h => by omega, False.elim⟩
theorem blk_no0 (W : World) (t : TypeId) (cs : Array Value) : Blk W W.heap.size t cs ↔ False := ⟨fun h => absurd h.lt (by omega), False.elim⟩
end
section
open Go.RowKit
def rdZ : Nat -> Bts -> Nat -> Int × Nat × Nat
 | 0, _, _ => (11, 0, 0)
 | _ + 1, [], _ => (12, 0, 0)
 | f + 1, b :: s, n => if b.toNat < 128 then (0, n * 128 + b.toNat % 128, 1) else ((rdZ f s (n * 128 + b.toNat % 128)).1, (rdZ f s (n * 128 + b.toNat % 128)).2.1, (rdZ f s (n * 128 + b.toNat % 128)).2.2 + 1)
def zag (z : Nat) : Int := if z % 2 = 1 then -((z / 2 : Nat) : Int) - 1 else ((z / 2 : Nat) : Int)
def rdI (s : Bts) : Int × Int × Nat :=
 if (rdZ 9 s 0).1 ≠ 0 then ((rdZ 9 s 0).1, 0, 0)
 else if s.headD 0 = 128 then (11, 0, 0)
 else if -1152921504606846976 <= zag (rdZ 9 s 0).2.1 /\ zag (rdZ 9 s 0).2.1 <= 1152921504606846976 then (0, zag (rdZ 9 s 0).2.1, (rdZ 9 s 0).2.2) else (11, 0, 0)
def rdN (s : Bts) : Int × Int × Nat := if (rdI s).1 ≠ 0 then ((rdI s).1, 0, 0) else if (rdI s).2.1 < 0 ∨ 65536 < (rdI s).2.1 then (11, 0, (rdI s).2.2) else rdI s
def rdT (s : Bts) : Int × Bts × Nat :=
 if (rdN s).1 ≠ 0 then ((rdN s).1, [], 0)
 else if (s.length : Int) - (rdN s).2.2 < (rdN s).2.1 then (12, [], 0) else (0, (s.drop (rdN s).2.2).take (rdN s).2.1.toNat, (rdN s).2.2 + (rdN s).2.1.toNat)
def opn (s : Bts) : Int × Bts × Nat :=
 if (rdI s).1 ≠ 0 then ((rdI s).1, [], 0)
 else if (rdI s).2.1 < 0 ∨ 65536 < (rdI s).2.1 then (2, [], 0)
 else if s.length < (rdI s).2.2 + (rdI s).2.1.toNat + 4 then (12, [], 0)
 else if ctail (s.take ((rdI s).2.2 + (rdI s).2.1.toNat)) ≠ (s.drop ((rdI s).2.2 + (rdI s).2.1.toNat)).take 4 then (13, [], 0)
 else (0, (s.drop (rdI s).2.2).take (rdI s).2.1.toNat, (rdI s).2.2 + (rdI s).2.1.toNat + 4)
theorem rdZ_le : ∀ (f : Nat) (s : Bts) (n : Nat), (rdZ f s n).1 = 0 -> 1 <= (rdZ f s n).2.2 /\ (rdZ f s n).2.2 <= s.length /\ (rdZ f s n).2.2 <= f /\ (rdZ f s n).2.1 < (n + 1) * 128 ^ f
 | 0, _, _, h => by simp [rdZ] at h
 | _ + 1, [], _, h => by simp [rdZ] at h
 | f + 1, b :: s, n, h => by
   unfold rdZ at h ⊢
   have hp : 1 <= 128 ^ f := Nat.pow_pos (by omega)
   have hs : 128 ^ (f + 1) = 128 * 128 ^ f := by rw [Nat.pow_succ, Nat.mul_comm]
   by_cases hb : b.toNat < 128
   ·rw [if_pos hb] at h ⊢
    refine ⟨Nat.le_refl _, by simp, by simp, ?_⟩
    dsimp only
    rw [hs, <- Nat.mul_assoc]
    have h1 : (n + 1) * 128 * 1 <= (n + 1) * 128 * 128 ^ f := Nat.mul_le_mul_left _ hp
    omega
   ·rw [if_neg hb] at h ⊢
    obtain ⟨h1, h2, h3, h4⟩ := rdZ_le f s (n * 128 + b.toNat % 128) h
    dsimp only
    refine ⟨by omega, by rw [List.length_cons]; omega, by omega, ?_⟩
    rw [hs, <- Nat.mul_assoc]
    exact Nat.lt_of_lt_of_le h4 (Nat.mul_le_mul_right _ (by omega))
theorem rdI_le {s : Bts} (h : (rdI s).1 = 0) : 1 <= (rdI s).2.2 /\ (rdI s).2.2 <= s.length /\ (rdI s).2.2 <= 9 /\ -1152921504606846976 <= (rdI s).2.1 /\ (rdI s).2.1 <= 1152921504606846976 := by
 unfold rdI at h ⊢
 split at h
 ·rename_i h1; exact absurd h h1
 ·rename_i h1
  rw [if_neg h1]
  obtain ⟨a, b, c, d⟩ := rdZ_le 9 s 0 (by simpa using h1)
  split at h
  ·omega
  ·rename_i h2
   rw [if_neg h2]
   split at h
   ·rename_i h3
    rw [if_pos h3]
    exact ⟨a, b, c, h3⟩
   ·omega
theorem vintN_len (z : Nat) : (vintN z).length = ngr z + 1 := by simp [vintN]
theorem gby_val (z i : Nat) : (gby z i).toNat = z / 128 ^ (ngr z - i) % 128 + if i = ngr z then 0 else 128 := by
 unfold gby
 rw [UInt8.toNat_ofNat']
 split <;> omega
theorem rdZ_vint {z : Nat} (hz : z < 9223372036854775808) (r : Bts) : ∀ d j : Nat, d + j = ngr z -> rdZ (9 - j) ((vintN z).drop j ++ r) (z / 128 ^ (ngr z + 1 - j)) = (0, z, ngr z + 1 - j) := by
 obtain ⟨g1, g2, g3⟩ := ngr_spec hz
 intro d
 induction d with
 | zero =>
   intro j hj
   obtain rfl : j = ngr z := by omega
   have hd : (vintN z).drop (ngr z) = [gby z (ngr z)] := by
    have hlt : ngr z < (vintN z).length := by rw [vintN_len]; omega
    rw [List.drop_eq_getElem_cons hlt, List.drop_eq_nil_of_le (by rw [vintN_len]; omega)]
    congr 1
    simp [vintN_gby]
   rw [hd, show 9 - ngr z = (8 - ngr z) + 1 by omega, List.cons_append, rdZ, gby_val]
   simp only [Nat.sub_self, Nat.pow_zero, Nat.div_one, if_true, Nat.add_zero]
   rw [if_pos (by omega), show ngr z + 1 - ngr z = 1 by omega, Nat.pow_one]
   refine Prod.ext rfl (Prod.ext ?_ rfl)
   dsimp only
   omega
 | succ d ih =>
   intro j hj
   have hlt : j < (vintN z).length := by rw [vintN_len]; omega
   have hd : (vintN z).drop j = gby z j :: (vintN z).drop (j + 1) := by
    rw [List.drop_eq_getElem_cons hlt]
    congr 1
    simp [vintN_gby]
   have ih := ih (j + 1) (by omega)
   rw [show ngr z + 1 - (j + 1) = ngr z - j by omega, show 9 - (j + 1) = 8 - j by omega] at ih
   have hm : z / 128 ^ (ngr z + 1 - j) * 128 + (gby z j).toNat % 128 = z / 128 ^ (ngr z - j) := by
    rw [gby_val, if_neg (by omega), show ngr z + 1 - j = (ngr z - j) + 1 by omega, Nat.pow_succ, <- Nat.div_div_eq_div_mul]
    omega
   rw [hd, show 9 - j = (8 - j) + 1 by omega, List.cons_append, rdZ, hm, ih, if_neg (by rw [gby_val, if_neg (by omega)]; omega)]
   refine Prod.ext rfl (Prod.ext rfl ?_)
   dsimp only
   omega
theorem zag_zig (n : Int) : zag (zig n) = n := by
 unfold zag zig
 split <;> split <;> omega
theorem vint_head {n : Int} (hz : zig n < 9223372036854775808) (r : Bts) : (vint n ++ r).headD 0 ≠ 128 := by
 obtain ⟨g1, g2, g3⟩ := ngr_spec hz
 have hd : vint n ++ r = gby (zig n) 0 :: ((vintN (zig n)).drop 1 ++ r) := by
  have hlt : 0 < (vintN (zig n)).length := by rw [vintN_len]; omega
  rw [show vint n = vintN (zig n) from rfl, <- List.cons_append]
  congr 1
  have := List.drop_eq_getElem_cons hlt
  rw [List.drop_zero] at this
  rw [this]
  congr 1
  simp [vintN_gby]
 rw [hd]
 show gby (zig n) 0 ≠ 128
 intro h
 have h1 := gby_val (zig n) 0
 rw [h, show ((128 : UInt8).toNat) = 128 from rfl, Nat.sub_zero] at h1
 by_cases h0 : 0 = ngr (zig n)
 ·rw [if_pos h0] at h1
  omega
 ·rw [if_neg h0] at h1
  have h2 := g2 (ngr (zig n) - 1) (by omega)
  have h3 : zig n / 128 ^ ngr (zig n) = zig n / 128 ^ (ngr (zig n) - 1) / 128 := by
   rw [Nat.div_div_eq_div_mul, <- Nat.pow_succ, show (ngr (zig n) - 1).succ = ngr (zig n) by omega]
  omega
theorem rdI_vint {n : Int} (h : -1152921504606846976 <= n /\ n <= 1152921504606846976) (r : Bts) : rdI (vint n ++ r) = (0, n, (vint n).length) := by
 have hz : zig n < 9223372036854775808 := by unfold zig; split <;> omega
 have hh := vint_head hz r
 obtain ⟨g1, g2, g3⟩ := ngr_spec hz
 have h0 := rdZ_vint hz r (ngr (zig n)) 0 rfl
 have h00 : zig n / 128 ^ (ngr (zig n) + 1 - 0) = 0 := by
  rw [Nat.sub_zero, Nat.pow_succ, <- Nat.div_div_eq_div_mul]
  exact Nat.div_eq_of_lt g1
 rw [h00, List.drop_zero, Nat.sub_zero] at h0
 have hv : rdZ 9 (vint n ++ r) 0 = (0, zig n, (vint n).length) := by
  rw [show (vint n).length = ngr (zig n) + 1 from vintN_len _]
  exact h0
 unfold rdI
 rw [hv]
 dsimp only
 rw [if_neg (by simp), if_neg hh, zag_zig, if_pos h]
theorem rdN_vint {k : Nat} (h : k <= 65536) (r : Bts) : rdN (vint k ++ r) = (0, (k : Int), (vint k).length) := by
 unfold rdN
 rw [rdI_vint (by omega)]
 dsimp only
 rw [if_neg (by simp), if_neg (by omega)]
theorem rdT_vtext {t : Bts} (h : t.length <= 65536) (r : Bts) : rdT (vtext t ++ r) = (0, t, (vtext t).length) := by
 unfold rdT vtext
 rw [List.append_assoc, rdN_vint h]
 dsimp only
 rw [if_neg (by simp), if_neg (by simp only [List.length_append]; omega), List.drop_left, Int.toNat_natCast, List.take_left, List.length_append]
theorem opn_seal {t : Bts} (h : t.length <= 65536) (r : Bts) : opn (sealB t ++ r) = (0, t, (sealB t).length) := by
 have hc : (ctail (vtext t)).length = 4 := rfl
 have e : sealB t ++ r = vint t.length ++ (t ++ (ctail (vtext t) ++ r)) := by unfold sealB vtext; simp only [List.append_assoc]
 have e1 : vint t.length ++ (t ++ (ctail (vtext t) ++ r)) = vtext t ++ (ctail (vtext t) ++ r) := by unfold vtext; simp only [List.append_assoc]
 have hl : (vint (t.length : Int)).length + t.length = (vtext t).length := by unfold vtext; rw [List.length_append]
 unfold opn
 rw [e, rdI_vint (by omega)]
 dsimp only
 rw [if_neg (by simp), if_neg (by omega), Int.toNat_natCast, hl, e1, List.take_left, List.drop_left, show (4 : Nat) = (ctail (vtext t)).length from hc.symm, List.take_left]
 rw [if_neg (by simp only [List.length_append]; omega), if_neg (by simp), <- e1, List.drop_left, List.take_left]
 refine Prod.ext rfl (Prod.ext rfl ?_)
 unfold sealB
 dsimp only
 rw [List.length_append]
end
section
open Go.RowKit Go.Shelf
attribute [local go_sem] Oper.semAt_some
set_option maxHeartbeats 1000000 in
theorem vrest_any (g : Nat) (s : Bts) (a : Nat) (e : Int) (w : World) (hk : Blk w g 372 #[strV s, .int .i64 a, .int .i64 e]) (hs : s.length <= 1000000) (ha : a <= s.length) :
 Calls Tryz.prog 254 #[.pointer (some ⟨g, 0, none⟩)] w fun e w' => e = .returned (.int .i64 ((s.length : Int) - a)) /\ Ext w w' := by
 obtain ⟨ba, hba, hbv, hbs⟩ := str_name s
 rw [hbv] at hk
 rw [<- hbs] at hs ha ⊢
 have c1 := hk.cell
 have c2 := hk.lt
 clear hba hbv hbs
 have hN := Near.refl w
 go_enter Tryz.func254, Tryz.ntmps254
 go_upto_region 1 with fail
 have hC := hN.2
 have hq := quiet_near hN
 refine wp_region_quiet_below (by kernel_rfl) (by kernel_rfl) ?_
 repeat (first | go_big_quiet_skip | (go_big_quiet_want; go_big_quiet_op; first | go_big_quiet_on | (apply Exists.intro; refine ⟨fun _ => ?_, ?_⟩; (focus (first | fail)); go_big_quiet_on)))
 refine wpQuiet_nil ?_
 intro w1 hw1
 clear hq
 replace hw1 := quiet_ext hw1
 replace hN := hN.step hw1
 have hC := hN.2
 go_wp2
 go_ret
 exact ⟨rfl, hw1⟩
set_option maxHeartbeats 1000000 in
theorem vfail_any (g : Nat) (u v : Value) (e c : Int) (w : World) (hk : Blk w g 372 #[u, v, .int .i64 e]) :
 Calls Tryz.prog 255 #[.pointer (some ⟨g, 0, none⟩), .int .i64 c] w fun e' w' => e' = .returned (.tuple #[]) /\ Ups g w w' /\ Blk w' g 372 #[u, v, .int .i64 (if e = 0 then c else e)] := by
 have c1 := hk.cell
 have c2 := hk.lt
 have c3 := hk.frozen
 by_cases h : e = 0
 ·subst h
  have hk' := hk.set_ 2 (.int .i64 c)
  have hu := (Ups.refl g w).setCell 2 (.int .i64 c)
  go_enter Tryz.func255, Tryz.ntmps255
  go_wp2
  go_end0
  exact ⟨rfl, hu, hk'⟩
 ·have hb : (e == 0) = false := by rw [beq_eq_false_iff_ne]; exact h
  rw [if_neg h]
  go_enter Tryz.func255, Tryz.ntmps255
  go_wp2
  go_end0
  exact ⟨rfl, Ups.refl _ _, hk⟩
theorem rdZ_stepF {s0 : Bts} {k acc : Nat} (hk : k < 9) (hl : k < s0.length) (hb : ¬ (s0[k]).toNat < 128) :
 rdZ (9 - k) (s0.drop k) acc = ((rdZ (9 - (k + 1)) (s0.drop (k + 1)) (acc * 128 + (s0[k]).toNat % 128)).1, (rdZ (9 - (k + 1)) (s0.drop (k + 1)) (acc * 128 + (s0[k]).toNat % 128)).2.1, (rdZ (9 - (k + 1)) (s0.drop (k + 1)) (acc * 128 + (s0[k]).toNat % 128)).2.2 + 1) := by
 rw [List.drop_eq_getElem_cons hl, show 9 - k = (9 - (k + 1)) + 1 by omega, rdZ, if_neg hb]
theorem rdZ_stepT {s0 : Bts} {k acc : Nat} (hk : k < 9) (hl : k < s0.length) (hb : (s0[k]).toNat < 128) : rdZ (9 - k) (s0.drop k) acc = (0, acc * 128 + (s0[k]).toNat % 128, 1) := by
 rw [List.drop_eq_getElem_cons hl, show 9 - k = (9 - (k + 1)) + 1 by omega, rdZ, if_pos hb]
def IntS (s0 : Bts) (k acc : Nat) (last : Bool) : Prop := acc < 128 ^ k /\ k <= 9 /\ k <= s0.length /\
 ((last = false /\ rdZ 9 s0 0 = ((rdZ (9 - k) (s0.drop k) acc).1, (rdZ (9 - k) (s0.drop k) acc).2.1, (rdZ (9 - k) (s0.drop k) acc).2.2 + k)) ∨ (last = true /\ 1 <= k /\ rdZ 9 s0 0 = (0, acc, k)))
theorem IntS.zero (s0 : Bts) : IntS s0 0 0 false := ⟨by decide, by omega, by omega, .inl ⟨rfl, rfl⟩⟩
theorem IntS.more {s0 : Bts} {k acc : Nat} (h : IntS s0 k acc false) (hk : k < 9) (hl : k < s0.length) :
 IntS s0 (k + 1) (acc * 128 + (s0[k]).toNat % 128) (decide ((s0[k]).toNat < 128)) := by
 obtain ⟨h1, h2, h3, h4⟩ := h
 rcases h4 with ⟨_, h4⟩ | ⟨h4, _⟩
 ·have hp : 128 ^ (k + 1) = 128 ^ k * 128 := Nat.pow_succ ..
  refine ⟨by omega, by omega, by omega, ?_⟩
  by_cases hb : (s0[k]).toNat < 128
  ·refine .inr ⟨decide_eq_true hb, by omega, ?_⟩
   rw [h4, rdZ_stepT hk hl hb]
   refine Prod.ext rfl (Prod.ext rfl ?_)
   dsimp only
   omega
  ·refine .inl ⟨decide_eq_false hb, ?_⟩
   rw [h4, rdZ_stepF hk hl hb]
   refine Prod.ext rfl (Prod.ext rfl ?_)
   dsimp only
   omega
 ·cases h4
theorem IntS.nine {s0 : Bts} {acc : Nat} (h : IntS s0 9 acc false) : rdI s0 = (11, 0, 0) := by
 obtain ⟨h1, h2, h3, h4⟩ := h
 rcases h4 with ⟨_, h4⟩ | ⟨h4, _⟩
 ·unfold rdI
  rw [h4]
  rfl
 ·cases h4
theorem IntS.short {s0 : Bts} {k acc : Nat} (h : IntS s0 k acc false) (hk : k < 9) (hl : s0.length = k) : rdI s0 = (12, 0, 0) := by
 obtain ⟨h1, h2, h3, h4⟩ := h
 rcases h4 with ⟨_, h4⟩ | ⟨h4, _⟩
 ·unfold rdI
  rw [h4, List.drop_eq_nil_of_le (by omega), show 9 - k = (9 - (k + 1)) + 1 by omega]
  rfl
 ·cases h4
theorem IntS.last {s0 : Bts} {k acc : Nat} (h : IntS s0 k acc true) : 1 <= k /\ k <= s0.length /\ acc < 9223372036854775808 /\ rdI s0 = (if s0.headD 0 = 128 then (11, 0, 0) else if -1152921504606846976 <= zag acc /\ zag acc <= 1152921504606846976 then (0, zag acc, k) else (11, 0, 0)) := by
 obtain ⟨h1, h2, h3, h4⟩ := h
 rcases h4 with ⟨h4, _⟩ | ⟨_, h4, h5⟩
 ·cases h4
 ·have hp : 128 ^ k <= 128 ^ 9 := Nat.pow_le_pow_right (by omega) h2
  refine ⟨h4, h3, by have : (128 : Nat) ^ 9 = 9223372036854775808 := by decide
                     omega, ?_⟩
  unfold rdI
  rw [h5]
  rfl
theorem or7 {acc b : Nat} (h : acc * 128 + b % 128 < 9223372036854775808) : bits .or .i64 ((acc : Int) * 128) ((b : Int) % 128) = ((acc * 128 + b % 128 : Nat) : Int) := by
 have hw : ∀ n : Int, 0 <= n -> n < 2 ^ 63 -> IntKind.i64.wrap n = n := fun n h1 h2 => by rw [IntKind.wrap_i64]; omega
 have := bits_join .i64 63 (by decide) hw 7 ((acc : Int) * 128) ((b : Int) % 128) (by omega) (by omega) (by omega) (by omega) (by omega) (by omega)
 rw [this]
 omega
theorem and1 {acc : Nat} (h : acc < 9223372036854775808) : bits .and .i64 (acc : Int) 1 = (acc : Int) % 2 := by
 have hw : ∀ n : Int, 0 <= n -> n < 2 ^ 63 -> IntKind.i64.wrap n = n := fun n h1 h2 => by rw [IntKind.wrap_i64]; omega
 have := bits_mask .i64 63 (by decide) hw 1 (by decide) (acc : Int) (by omega) (by omega)
 rw [show ((2 : Int) ^ 1 - 1) = 1 from rfl] at this
 exact this
theorem and127b (b : UInt8) : bits .and .u8 (b.toNat : Int) 127 = (b.toNat : Int) % 128 := by
 have hb := b.toNat_lt
 have := bits_mask .u8 8 (by decide) wraps_u8 7 (by decide) (b.toNat : Int) (by omega) (by omega)
 rw [show ((2 : Int) ^ 7 - 1) = 127 from rfl] at this
 exact this
theorem idx_str {s : Bts} {ba : ByteArray} (h : (⟨s.toArray⟩ : ByteArray) = ba) {i : Int} {k : Nat} (hi : i = k) (hk : k < s.length) (w : World) :
 (Instr.index 9 (.string ba) (.int .i64 i)).run Tryz.prog w = .ok (.int .u8 (s[k].toNat : Int)) w := by
 subst h hi
 have hs : (⟨s.toArray⟩ : ByteArray).size = s.length := ba_size s
 rw [run_index_string (P := Tryz.prog) (w := w) 9 _ .i64 (k : Int) Tryz.underlying9]
 rw [dif_pos ⟨by omega, by rw [hs]; omega⟩]
 rfl
set_option maxRecDepth 100000 in
set_option maxHeartbeats 8000000 in
theorem integer_any (g : Nat) (s : Bts) (a : Nat) (w : World) (hk : Blk w g 372 #[strV s, .int .i64 a, .int .i64 0]) (hs : s.length <= 1000000) (ha : a <= s.length) :
 Calls Tryz.prog 252 #[.pointer (some ⟨g, 0, none⟩)] w fun e w' => e = .returned (.int .i64 (rdI (s.drop a)).2.1) /\ Ups g w w' /\ Blk w' g 372 #[strV s, .int .i64 ((a + (rdI (s.drop a)).2.2 : Nat) : Int), .int .i64 (rdI (s.drop a)).1] := by
 have hl0 : (s.drop a).length = s.length - a := List.length_drop
 have f1 := fun w hk => vrest_any g s a 0 w hk hs ha
 obtain ⟨ba, hba, hbv, hbs⟩ := str_name s
 have hge := fun (i : Int) (k : Nat) hi hk w => idx_str hba (i := i) (k := k) hi hk w
 have f2 := fun w c hk => vfail_any g (strV s) (.int .i64 a) 0 c w hk
 rw [hbv] at hk f1 f2 ⊢
 obtain ⟨s0, hs0⟩ : ∃ s0, s.drop a = s0 := ⟨_, rfl⟩
 have hat : ∀ (k : Nat) (h : a + k < s.length) (h' : k < s0.length), s[a + k] = s0[k] := fun k h h' => by subst hs0; rw [List.getElem_drop]
 rw [hs0] at hl0 ⊢
 obtain ⟨n, hn⟩ : ∃ n, s.length = n := ⟨_, rfl⟩
 rw [hn] at hbs hl0 hs ha f1
 have HN := Lib.hid hn
 have c1 := hk.cell
 have c2 := hk.lt
 clear hs0 hba hbv hn
 go_enter Tryz.func252, Tryz.ntmps252
 go_wp2_with fail
 go_loopg [3, 4, 5] 11 (fun m vn vk vl wr => ∃ (k acc : Nat) (last : Bool), vn = .int .i64 acc /\ vk = .int .i64 k /\ vl = .bool last /\ m + k = 11 /\ IntS s0 k acc last /\ Ext w wr)
 case atStart => exact ⟨0, 0, false, by go_num, by go_num, rfl, rfl, IntS.zero s0, Ext.refl _⟩
 case round =>
  obtain ⟨k, acc, last, rfl, rfl, rfl, hmk, hI, hE⟩ := hrel
  have HI := Lib.hid hI
  have hk9 := hI.2.1
  have hkl := hI.2.2.1
  have hkr := hk.ext hE
  have d1 := hkr.cell
  have d2 := hkr.lt
  clear c1 c2 hI
  cases last with
  | false =>
    by_cases k9 : k = 9
    ·subst k9
     have HR := Lib.hid (show rdI s0 = (11, 0, 0) from HI.out.nine)
     go_wp2_with fail
     refine (f2 _ 11 hkr).mono ?_
     rintro e w1 ⟨rfl, hu1, hk1⟩
     go_wp2
     go_ret
     rw [HR.out]
     exact ⟨rfl, (Ups.of_ext hE).trans hu1, hk1⟩
    ·go_wp2_with fail
     refine (f1 _ hkr).mono ?_
     rintro e w1 ⟨rfl, hb1⟩
     have hE1 := hE.trans hb1
     have hk1 := hkr.ext hb1
     clear d1 d2
     have d1 := hk1.cell
     have d2 := hk1.lt
     by_cases hsh : s0.length = k
     ·have e1 : ((n : Int) - (a : Int) == (k : Int)) = true := by rw [beq_iff_eq]; omega
      have HR := Lib.hid (show rdI s0 = (12, 0, 0) from HI.out.short (by omega) hsh)
      go_wp2_with fail
      refine (f2 _ 12 hk1).mono ?_
      rintro e w2 ⟨rfl, hu2, hk2⟩
      go_wp2
      go_ret
      rw [HR.out]
      exact ⟨rfl, (Ups.of_ext hE1).trans hu2, hk2⟩
     ·have e1 : ((n : Int) - (a : Int) == (k : Int)) = false := by rw [beq_eq_false_iff_ne]; omega
      have hlt : k < s0.length := by omega
      have hM := HI.out.more (by omega) hlt
      have hg := hge ((a : Int) + (k : Int)) (a + k) (by omega) (by rw [HN.out]; omega)
      rw [hat k (by rw [HN.out]; omega) hlt] at hg
      obtain ⟨b, hb⟩ : ∃ b, s0[k] = b := ⟨_, rfl⟩
      rw [hb] at hg hM
      have hm9 : acc * 128 + b.toNat % 128 < 9223372036854775808 := by
       have hp : 128 ^ (k + 1) <= 128 ^ 9 := Nat.pow_le_pow_right (by omega) (by omega)
       have := hM.1
       have : (128 : Nat) ^ 9 = 9223372036854775808 := by decide
       omega
      have q1 := or7 hm9
      have q2 := and127b b
      have HM := Lib.hid hM
      have hbl := b.toNat_lt
      clear hM hb
      have hN := Near.refl w1
      go_upto_region 13 with fail
      have hC := hN.2
      have hq := quiet_near hN
      refine wp_region_quiet_below (by kernel_rfl) (by kernel_rfl) ?_
      repeat (first | go_big_quiet_skip | (go_big_quiet_want; go_big_quiet_op; first | go_big_quiet_on | (apply Exists.intro; refine ⟨fun _ => ?_, ?_⟩; (focus (first | fail)); go_big_quiet_on)))
      refine wpQuiet_nil ?_
      intro w1 hw1
      clear hq
      replace hw1 := quiet_ext hw1
      replace hN := hN.step hw1
      have hC := hN.2
      have hE2 := hE1.trans hw1
      go_wp2_with fail
      go_roundg (gk - 1)
      case measure => omega
      case rel => exact ⟨k + 1, acc * 128 + b.toNat % 128, decide (b.toNat < 128), by go_num, by go_num, by rw [decide_eq_decide.2 (show ((b.toNat : Int) < 128) ↔ b.toNat < 128 by omega)], by omega, HM.out, hE2⟩
  | true =>
    obtain ⟨l1, l2, l3, l4⟩ := HI.out.last
    have hg := hge (a : Int) (a + 0) (by omega) (by rw [HN.out]; omega)
    rw [hat 0 (by rw [HN.out]; omega) (by omega)] at hg
    have hh : s0.headD 0 = s0[0]'(by omega) := by
     cases s0 with
     | nil => simp at l2; omega
     | cons x r => rfl
    rw [hh] at l4
    obtain ⟨b, hb⟩ : ∃ b, s0[0]'(by omega) = b := ⟨_, rfl⟩
    rw [hb] at hg l4
    have q3 := and1 l3
    have hN := Near.refl wr
    have HL := Lib.hid l4
    go_upto_region 15 with fail
    have hC := hN.2
    have hq := quiet_near hN
    refine wp_region_quiet_below (by kernel_rfl) (by kernel_rfl) ?_
    repeat (first | go_big_quiet_skip | (go_big_quiet_want; go_big_quiet_op; first | go_big_quiet_on | (apply Exists.intro; refine ⟨fun _ => ?_, ?_⟩; (focus (first | fail)); go_big_quiet_on)))
    refine wpQuiet_nil ?_
    intro w1 hw1
    clear hq
    replace hw1 := quiet_ext hw1
    replace hN := hN.step hw1
    have hC := hN.2
    have hEw := hE.trans hw1
    have hkw := hk.ext hEw
    clear d1 d2
    have d1 := hkw.cell
    have d2 := hkw.lt
    have d3 := hkw.frozen
    by_cases hb8 : b = 128
    ·have e8 : ((b.toNat : Int) == 128) = true := by rw [hb8]; rfl
     have HR := Lib.hid (show rdI s0 = (11, 0, 0) by rw [HL.out, if_pos hb8])
     clear l4
     go_wp2_with fail
     refine (f2 _ 11 hkw).mono ?_
     rintro e w2 ⟨rfl, hu2, hk2⟩
     go_wp2
     go_ret
     rw [HR.out]
     exact ⟨rfl, (Ups.of_ext hEw).trans hu2, hk2⟩
    ·have e8 : ((b.toNat : Int) == 128) = false := by
      rw [beq_eq_false_iff_ne]
      intro h
      apply hb8
      apply UInt8.toNat_inj.1
      show b.toNat = 128
      omega
     rw [if_neg hb8] at l4
     have HL := Lib.hid l4
     clear l4
     by_cases hp : acc % 2 = 1
     ·have ez : zag acc = -((acc : Int) / 2) - 1 := by unfold zag; rw [if_pos hp]; omega
      have ep : ((acc : Int) % 2 == 1) = true := by rw [beq_iff_eq]; omega
      obtain ⟨z, hz⟩ : ∃ z, -((acc : Int) / 2) - 1 = z := ⟨_, rfl⟩
      rw [hz] at ez
      rw [ez] at HL
      have f4 := fun w => inRange_any z w
      clear ez
      by_cases hr : -1152921504606846976 <= z /\ z <= 1152921504606846976
      ·have HR := Lib.hid (show rdI s0 = (0, z, k) by rw [HL.out, if_pos hr])
       rw [decide_eq_true hr] at f4
       clear HL
       go_wp2_with fail
       refine (f4 _).mono ?_
       rintro e wa ⟨rfl, rfl⟩
       go_wp2
       go_ret
       rw [HR.out]
       exact ⟨rfl, (Ups.of_ext hEw).setCell 1 _, hkw.set_ 1 _⟩
      ·have HR := Lib.hid (show rdI s0 = (11, 0, 0) by rw [HL.out, if_neg hr])
       rw [decide_eq_false hr] at f4
       clear HL
       go_wp2_with fail
       refine (f4 _).mono ?_
       rintro e wa ⟨rfl, rfl⟩
       go_wp2_with fail
       refine (f2 _ 11 hkw).mono ?_
       rintro e w2 ⟨rfl, hu2, hk2⟩
       go_wp2
       go_ret
       rw [HR.out]
       exact ⟨rfl, (Ups.of_ext hEw).trans hu2, hk2⟩
     ·have ez : zag acc = (acc : Int) / 2 := by unfold zag; rw [if_neg hp]; omega
      have ep : ((acc : Int) % 2 == 1) = false := by rw [beq_eq_false_iff_ne]; omega
      obtain ⟨z, hz⟩ : ∃ z, (acc : Int) / 2 = z := ⟨_, rfl⟩
      rw [hz] at ez
      rw [ez] at HL
      have f4 := fun w => inRange_any z w
      clear ez
      by_cases hr : -1152921504606846976 <= z /\ z <= 1152921504606846976
      ·have HR := Lib.hid (show rdI s0 = (0, z, k) by rw [HL.out, if_pos hr])
       rw [decide_eq_true hr] at f4
       clear HL
       go_wp2_with fail
       refine (f4 _).mono ?_
       rintro e wa ⟨rfl, rfl⟩
       go_wp2
       go_ret
       rw [HR.out]
       exact ⟨rfl, (Ups.of_ext hEw).setCell 1 _, hkw.set_ 1 _⟩
      ·have HR := Lib.hid (show rdI s0 = (11, 0, 0) by rw [HL.out, if_neg hr])
       rw [decide_eq_false hr] at f4
       clear HL
       go_wp2_with fail
       refine (f4 _).mono ?_
       rintro e wa ⟨rfl, rfl⟩
       go_wp2_with fail
       refine (f2 _ 11 hkw).mono ?_
       rintro e w2 ⟨rfl, hu2, hk2⟩
       go_wp2
       go_ret
       rw [HR.out]
       exact ⟨rfl, (Ups.of_ext hEw).trans hu2, hk2⟩
end
section
open Go.RowKit
def rdLs : Nat -> Bts -> Int × List Int × Nat
 | 0, _ => (0, [], 0)
 | k + 1, s => if (rdI s).1 ≠ 0 then ((rdI s).1, [], 0) else if (rdLs k (s.drop (rdI s).2.2)).1 ≠ 0 then ((rdLs k (s.drop (rdI s).2.2)).1, [], 0) else (0, (rdI s).2.1 :: (rdLs k (s.drop (rdI s).2.2)).2.1, (rdI s).2.2 + (rdLs k (s.drop (rdI s).2.2)).2.2)
def rdL (s : Bts) : Int × List Int × Nat :=
 if (rdN s).1 ≠ 0 then ((rdN s).1, [], 0)
 else if (rdLs (rdN s).2.1.toNat (s.drop (rdN s).2.2)).1 ≠ 0 then ((rdLs (rdN s).2.1.toNat (s.drop (rdN s).2.2)).1, [], 0)
 else (0, (rdLs (rdN s).2.1.toNat (s.drop (rdN s).2.2)).2.1, (rdN s).2.2 + (rdLs (rdN s).2.1.toNat (s.drop (rdN s).2.2)).2.2)
def isNd (n : Int) : Bool := decide (0 <= n /\ n < 16)
def par1 (s : Bts) : Option (List Int) := if (rdI s).1 = 0 /\ (rdI s).2.2 = s.length /\ 0 <= (rdI s).2.1 /\ (rdI s).2.1 <= 1099511627776 then some [(rdI s).2.1] else none
def par2 (s : Bts) : Option (List Int) :=
 if (rdI s).1 = 0 /\ (rdI (s.drop (rdI s).2.2)).1 = 0 /\ (rdI s).2.2 + (rdI (s.drop (rdI s).2.2)).2.2 = s.length /\ (1 <= (rdI s).2.1 /\ (rdI s).2.1 <= 255) /\ 0 <= (rdI (s.drop (rdI s).2.2)).2.1 /\ (rdI (s.drop (rdI s).2.2)).2.1 <= (rdI s).2.1
 then some [(rdI s).2.1, (rdI (s.drop (rdI s).2.2)).2.1] else none
def ndsB (l : List Int) : Bool := l.all isNd && decide (l.Nodup)
def par3 (s : Bts) : Option (List Int) := if (rdL s).1 = 0 /\ (rdL s).2.2 = s.length /\ ndsB (rdL s).2.1 = true then some (rdL s).2.1 else none
def parK (k : Int) (s : Bts) : Option (List Int) := if k = 1 then par1 s else if k = 2 then par2 s else par3 s
def getR (b : Bu) (k : Int) : Int × List Int := match findK b.blocks k with
 | none => (7, [])
 | some x => match parK k x.data with
   | none => (11, [])
   | some l => (0, l)
def vlist (l : List Int) : Bts := vint l.length ++ l.flatMap vint
def setB (b : Bu) (k : Int) (d : Bts) : Bu := { b with blocks := putK b.blocks ⟨k, ((findK b.blocks k).getD ⟨k, 1, []⟩).flags, d⟩ }
def fwE (b : Bu) (n el : Int) : Int :=
 if isNd n = false ∨ el < 0 ∨ 1099511627776 < el then 2
 else if (getR b 1).1 = 11 ∨ (getR b 2).1 = 11 ∨ (getR b 3).1 = 11 then 11
 else if (getR b 1).1 = 0 /\ b.life <= gi (getR b 1).2 0 + el then 17
 else if (getR b 2).1 = 0 /\ gi (getR b 2).2 0 < gi (getR b 2).2 1 + 1 then 4
 else if (getR b 3).1 = 0 /\ n ∈ (getR b 3).2 then 27 else 0
def fw1 (b : Bu) (el : Int) : Bu := if (getR b 1).1 = 0 then setB b 1 (vint (gi (getR b 1).2 0 + el)) else b
def fw2 (b c : Bu) : Bu := if (getR b 2).1 = 0 then setB c 2 (vint (gi (getR b 2).2 0) ++ vint (gi (getR b 2).2 1 + 1)) else c
def fw3 (b c : Bu) (n : Int) : Bu := if (getR b 3).1 = 0 then setB c 3 (vlist ((getR b 3).2 ++ [n])) else c
def fwB (b : Bu) (n el : Int) : Bu := fw3 b (fw2 b (fw1 b el)) n
theorem getR_cases (b : Bu) (k : Int) : (findK b.blocks k = none /\ getR b k = (7, [])) ∨ (∃ x, findK b.blocks k = some x /\ parK k x.data = none /\ getR b k = (11, [])) ∨ (∃ x l, findK b.blocks k = some x /\ parK k x.data = some l /\ getR b k = (0, l)) := by
 unfold getR
 cases hf : findK b.blocks k with
 | none => exact .inl ⟨rfl, rfl⟩
 | some x =>
   cases hp : parK k x.data with
   | none => exact .inr (.inl ⟨x, rfl, hp, by dsimp only; rw [hp]⟩)
   | some l => exact .inr (.inr ⟨x, l, rfl, hp, by dsimp only; rw [hp]⟩)
theorem getR_ok {b : Bu} {k : Int} (h : (getR b k).1 = 0) : ∃ x, findK b.blocks k = some x /\ parK k x.data = some (getR b k).2 := by
 rcases getR_cases b k with ⟨_, h1⟩ | ⟨x, _, _, h1⟩ | ⟨x, l, h1, h2, h3⟩
 ·rw [h1] at h; cases h
 ·rw [h1] at h; cases h
 ·exact ⟨x, h1, by rw [h3]; exact h2⟩
theorem getR_1 {b : Bu} (h : (getR b 1).1 = 0) : ∃ a, (getR b 1).2 = [a] /\ 0 <= a /\ a <= 1099511627776 := by
 obtain ⟨x, _, h2⟩ := getR_ok h
 unfold parK par1 at h2
 rw [if_pos rfl] at h2
 split at h2
 ·rename_i h3
  injection h2 with h2
  exact ⟨_, h2.symm, h3.2.2⟩
 ·cases h2
theorem getR_2 {b : Bu} (h : (getR b 2).1 = 0) : ∃ a c, (getR b 2).2 = [a, c] /\ (1 <= a /\ a <= 255) /\ 0 <= c /\ c <= a := by
 obtain ⟨x, _, h2⟩ := getR_ok h
 unfold parK par2 at h2
 rw [if_neg (by decide), if_pos rfl] at h2
 split at h2
 ·rename_i h3
  injection h2 with h2
  exact ⟨_, _, h2.symm, h3.2.2.2⟩
 ·cases h2
theorem nds_len : ∀ (n : Nat) {l : List Int}, (∀ x ∈ l, 0 <= x /\ x < n) -> l.Nodup -> l.length <= n
 | 0, l, h, _ => by
   cases l with
   | nil => simp
   | cons x r => have := h x (by simp); omega
 | n + 1, l, h, hn => by
   have h1 : (l.filter (fun x => decide (x ≠ (n : Int)))).length <= n := nds_len n (fun x hx => by
    obtain ⟨h2, h3⟩ := List.mem_filter.1 hx
    have := h x h2
    have h3 : x ≠ (n : Int) := by simpa using h3
    omega) (hn.filter _)
   have h2 : ∀ m : List Int, m.Nodup -> m.length <= (m.filter (fun x => decide (x ≠ (n : Int)))).length + 1 := by
    intro m
    induction m with
    | nil => intro _; simp
    | cons y r ih =>
      intro hm
      obtain ⟨h3, h4⟩ := List.nodup_cons.1 hm
      by_cases hy : y = (n : Int)
      ·rw [List.filter_cons_of_neg (by simp [hy])]
       have : r.filter (fun x => decide (x ≠ (n : Int))) = r := List.filter_eq_self.2 (fun x hx => by
        have : x ≠ y := fun e => h3 (e ▸ hx)
        rw [hy] at this
        simpa using this)
       rw [this, List.length_cons]
       exact Nat.le_refl _
      ·rw [List.filter_cons_of_pos (by simpa using hy), List.length_cons, List.length_cons]
       have := ih h4
       omega
   have := h2 l hn
   omega
theorem getR_3 {b : Bu} (h : (getR b 3).1 = 0) : (∀ x ∈ (getR b 3).2, 0 <= x /\ x < 16) /\ (getR b 3).2.length <= 16 := by
 obtain ⟨x0, _, h2⟩ := getR_ok h
 unfold parK par3 at h2
 rw [if_neg (by decide), if_neg (by decide)] at h2
 split at h2
 ·rename_i h3
  injection h2 with h2
  rw [<- h2]
  have h4 := h3.2.2
  unfold ndsB at h4
  rw [Bool.and_eq_true, List.all_eq_true, decide_eq_true_eq] at h4
  have h5 : ∀ y ∈ (rdL x0.data).2.1, 0 <= y /\ y < 16 := fun y hy => by have := h4.1 y hy; simpa [isNd] using this
  exact ⟨h5, nds_len 16 h5 h4.2⟩
 ·cases h2
theorem putK_len {l : List Bl} {b x : Bl} (h : findK l b.kind = some x) : (putK l b).length <= l.length := by
 have h1 : ∃ x ∈ l, x.kind = b.kind := ⟨x, List.mem_of_find?_eq_some h, by have := List.find?_some h; simpa using this⟩
 have key : ∀ m : List Bl, (m.filter (fun x => decide (x.kind < b.kind))).length + (m.filter (fun x => decide (b.kind < x.kind))).length <= m.length /\ ((∃ x ∈ m, x.kind = b.kind) -> (m.filter (fun x => decide (x.kind < b.kind))).length + (m.filter (fun x => decide (b.kind < x.kind))).length + 1 <= m.length) := by
  intro m
  induction m with
  | nil => exact ⟨by simp, fun ⟨x, hx, _⟩ => by cases hx⟩
  | cons y r ih =>
    obtain ⟨i1, i2⟩ := ih
    by_cases e1 : y.kind < b.kind
    ·have e2 : ¬ b.kind < y.kind := by omega
     rw [List.filter_cons_of_pos (by simpa using e1), List.filter_cons_of_neg (p := fun x : Bl => decide (b.kind < x.kind)) (by simpa using e2)]
     simp only [List.length_cons]
     refine ⟨by omega, fun ⟨x, hx, hk⟩ => ?_⟩
     rcases List.mem_cons.1 hx with rfl | hx
     ·omega
     ·have := i2 ⟨x, hx, hk⟩; omega
    ·by_cases e2 : b.kind < y.kind
     ·rw [List.filter_cons_of_neg (by simpa using e1), List.filter_cons_of_pos (p := fun x : Bl => decide (b.kind < x.kind)) (by simpa using e2)]
      simp only [List.length_cons]
      refine ⟨by omega, fun ⟨x, hx, hk⟩ => ?_⟩
      rcases List.mem_cons.1 hx with rfl | hx
      ·omega
      ·have := i2 ⟨x, hx, hk⟩; omega
     ·rw [List.filter_cons_of_neg (by simpa using e1), List.filter_cons_of_neg (p := fun x : Bl => decide (b.kind < x.kind)) (by simpa using e2)]
      simp only [List.length_cons]
      exact ⟨by omega, fun _ => by omega⟩
 have := (key l).2 h1
 unfold putK
 rw [List.length_append, List.length_cons]
 omega
theorem findK_putO {l : List Bl} {b : Bl} {k : Int} (hk : k ≠ b.kind) : findK (putK l b) k = findK l k := by
 unfold findK putK
 rw [List.find?_append, List.find?_cons_of_neg (by simpa using fun e => hk e.symm)]
 by_cases h : k < b.kind
 ·have e2 : (l.filter (fun x => decide (b.kind < x.kind))).find? (fun x => decide (x.kind = k)) = none := by
   rw [List.find?_eq_none]
   intro x hx
   have := (List.mem_filter.1 hx).2
   simp only [decide_eq_true_eq] at this ⊢
   omega
  rw [e2, Option.or_none, List.find?_filter]
  congr 1
  funext x
  by_cases e : x.kind = k
  ·simp [e, h]
  ·simp [e]
 ·have e2 : (l.filter (fun x => decide (x.kind < b.kind))).find? (fun x => decide (x.kind = k)) = none := by
   rw [List.find?_eq_none]
   intro x hx
   have := (List.mem_filter.1 hx).2
   simp only [decide_eq_true_eq] at this ⊢
   omega
  rw [e2, Option.none_or, List.find?_filter]
  congr 1
  funext x
  by_cases e : x.kind = k
  ·have : b.kind < k := by omega
   simp [e, this]
  ·simp [e]
theorem bare_putE {l : List Bl} {b : Bl} (h : AscB l) (hb : b.kind = 1 ∨ b.kind = 2 ∨ b.kind = 3) : remK (remK (remK (remK (putK l b) 1) 2) 3) 4 = remK (remK (remK (remK l 1) 2) 3) 4 := by
 have e : ∀ m : List Bl, remK (remK (remK (remK m 1) 2) 3) 4 = m.filter (fun x => decide (x.kind ≠ 4) && (decide (x.kind ≠ 3) && (decide (x.kind ≠ 2) && decide (x.kind ≠ 1)))) := fun m => by
  unfold remK
  rw [List.filter_filter, List.filter_filter, List.filter_filter]
  refine List.filter_congr (fun x _ => ?_)
  simp only [Bool.and_assoc]
 rw [e, e]
 unfold putK
 rw [List.filter_append, List.filter_cons, if_neg (by rcases hb with hb | hb | hb <;> rw [hb] <;> simp)]
 exact asc_split b.kind h (fun x hx => by
  simp only [Bool.and_eq_true, decide_eq_true_eq] at hx
  rcases hb with hb | hb | hb <;> rw [hb] <;> omega)
structure FwK (b c : Bu) : Prop where
 ok : buE c = 0
 auth : findK c.blocks 4 = findK b.blocks 4
 bare : c.bare = b.bare
theorem FwK.refl {b : Bu} (h : buE b = 0) : FwK b b := ⟨h, rfl, rfl⟩
theorem FwK.trans {a b c : Bu} (h : FwK a b) (k : FwK b c) : FwK a c := ⟨k.ok, k.auth.trans h.auth, k.bare.trans h.bare⟩
theorem setB_ok {b : Bu} {k : Int} {d : Bts} {x : Bl} (h : buE b = 0) (hk : k = 1 ∨ k = 2 ∨ k = 3) (hx : findK b.blocks k = some x) (hd : d.length <= 1024) :
 Bl.err ⟨k, x.flags, d⟩ = 0 /\ (putK b.blocks ⟨k, x.flags, d⟩).length <= 8 /\ setB b k d = { b with blocks := putK b.blocks ⟨k, x.flags, d⟩ } /\ FwK b (setB b k d) /\ ∀ j, j ≠ k -> findK (setB b k d).blocks j = findK b.blocks j := by
 obtain ⟨h8, hok, hasc⟩ := blksE_ok.1 (buE_blocks h)
 obtain ⟨q1, q2, q3⟩ := blErr_ok (hok x (List.mem_of_find?_eq_some hx))
 have he : Bl.err ⟨k, x.flags, d⟩ = 0 := by
  unfold Bl.err
  dsimp only
  rw [if_neg (by omega), if_neg (by omega), if_neg (by omega)]
 have hl : (putK b.blocks ⟨k, x.flags, d⟩).length <= 8 := Nat.le_trans (putK_len (b := ⟨k, x.flags, d⟩) hx) h8
 have es : setB b k d = { b with blocks := putK b.blocks ⟨k, x.flags, d⟩ } := by unfold setB; rw [hx]; rfl
 refine ⟨he, hl, es, ?_, fun j hj => ?_⟩
 ·rw [es]
  refine ⟨buE_with h (putK_valid (buE_blocks h) he hl), ?_, ?_⟩
  ·exact findK_putO (by dsimp only; omega)
  ·unfold Bu.bare
   dsimp only
   rw [bare_putE hasc hk]
 ·rw [es]
  exact findK_putO (by dsimp only; exact hj)
theorem vlist_len {l : List Int} (h : l.length <= 17) (hb : ∀ x ∈ l, 0 <= x /\ x < 16) : (vlist l).length <= 200 := by
 have h1 := vint_len (l.length : Int)
 have h2 : ∀ m : List Int, (m.flatMap vint).length <= 10 * m.length := by
  intro m
  induction m with
  | nil => simp
  | cons x r ih =>
    have := vint_len x
    rw [List.flatMap_cons, List.length_append, List.length_cons]
    omega
 have := h2 l
 unfold vlist
 rw [List.length_append]
 omega
theorem fw_1 {b : Bu} (el : Int) (h : buE b = 0) : FwK b (fw1 b el) /\ ∀ j, j ≠ 1 -> findK (fw1 b el).blocks j = findK b.blocks j := by
 unfold fw1
 split
 ·rename_i h1
  obtain ⟨x, hx, _⟩ := getR_ok h1
  have hv := vint_len (gi (getR b 1).2 0 + el)
  have := setB_ok (d := vint (gi (getR b 1).2 0 + el)) h (.inl rfl) hx (by omega)
  exact this.2.2.2
 ·exact ⟨FwK.refl h, fun _ _ => rfl⟩
theorem fw_2 {b c : Bu} (h : buE c = 0) (hc : findK c.blocks 2 = findK b.blocks 2) : FwK c (fw2 b c) /\ ∀ j, j ≠ 2 -> findK (fw2 b c).blocks j = findK c.blocks j := by
 unfold fw2
 split
 ·rename_i h1
  obtain ⟨x, hx, _⟩ := getR_ok h1
  have hv := vint_len (gi (getR b 2).2 0)
  have hv2 := vint_len (gi (getR b 2).2 1 + 1)
  have := setB_ok (d := vint (gi (getR b 2).2 0) ++ vint (gi (getR b 2).2 1 + 1)) h (.inr (.inl rfl)) (hc.trans hx) (by rw [List.length_append]; omega)
  exact this.2.2.2
 ·exact ⟨FwK.refl h, fun _ _ => rfl⟩
theorem fw_3 {b c : Bu} {n : Int} (hn : isNd n = true) (h : buE c = 0) (hc : findK c.blocks 3 = findK b.blocks 3) : FwK c (fw3 b c n) := by
 unfold fw3
 split
 ·rename_i h1
  obtain ⟨x, hx, _⟩ := getR_ok h1
  obtain ⟨g1, g2⟩ := getR_3 h1
  have hn' : 0 <= n /\ n < 16 := by simpa [isNd] using hn
  have hv := vlist_len (l := (getR b 3).2 ++ [n]) (by simp; omega) (fun y hy => by
   rcases List.mem_append.1 hy with hy | hy
   ·exact g1 y hy
   ·rw [List.mem_singleton.1 hy]; exact hn')
  have := setB_ok (d := vlist ((getR b 3).2 ++ [n])) h (.inr (.inr rfl)) (hc.trans hx) (by omega)
  exact this.2.2.2.1
 ·exact FwK.refl h
theorem fw_keeps {b : Bu} {n el : Int} (h : buE b = 0) (he : fwE b n el = 0) : FwK b (fwB b n el) := by
 have hn : isNd n = true := by
  unfold fwE at he
  split at he
  ·omega
  ·rename_i h1
   cases hh : isNd n with
   | true => rfl
   | false => exact absurd (.inl hh) h1
 obtain ⟨k1, j1⟩ := fw_1 el h
 obtain ⟨k2, j2⟩ := fw_2 (b := b) k1.ok (j1 2 (by decide))
 have k3 := fw_3 (b := b) (c := fw2 b (fw1 b el)) hn k2.ok ((j2 3 (by decide)).trans (j1 3 (by decide)))
 exact (k1.trans k2).trans k3
theorem FwK.authB {b c : Bu} (h : FwK b c) : c.auth = b.auth := by unfold Bu.auth; rw [h.auth]
theorem FwK.ver {b c : Bu} {node : Int} {key : Bts} (h : FwK b c) (hb : buE b = 0) : verE c node key = verE b node key := by
 have hs : secE c = secE b := by unfold secE; rw [h.auth]
 have ha : allE c node key = allE b node key := by unfold allE; rw [hs, h.ok, hb]
 have ht : signT c node key = signT b node key := by unfold signT; rw [h.bare]
 unfold verE
 rw [ha, h.authB, ht]
end
section
open Go.RowKit Go.Shelf
end
section
open Go.RowKit Go.Shelf
set_option maxHeartbeats 1000000 in
theorem indexInt_any (A : Option Addr) (c : Nat) (l : List Int) (x : Int) (w : World) (hA : Rd EInt w A l) (hmax : l.length <= 2199023255552) :
 Calls Tryz.prog 181 #[.slice A l.length c, .int .i64 x] w fun e w' => e = .returned (.int .i64 (findI (fun y => y == x) l)) /\ Ext w w' := by
 go_enter Tryz.func181, Tryz.ntmps181
 go_wp2
 go_loopg [8] l.length (fun n i wr => ∃ k : Nat, k + n = l.length /\ i = .int .i64 k /\ Hid ((l.take k).any (fun y => y == x) = false) /\ Ext w wr)
 case atStart => exact ⟨0, by omega, rfl, Lib.hid rfl, Ext.refl _⟩
 case round =>
  obtain ⟨k, hkl, rfl, hu, hN⟩ := hrel
  by_cases hlt : k < l.length
  ·obtain ⟨b, o, rfl, hb, c0⟩ := (hA.ext hN).int hlt
   have Hl := Lib.hid hkl
   generalize hxe : l[k] = y at *
   have Hx := Lib.hid hxe
   clear hxe hkl
   by_cases hxy : y = x
   ·subst hxy
    go_wp2
    go_ret
    exact ⟨ret_i64 (findI_at hlt hu.out (by rw [Hx.out]; simp)).symm, hN⟩
   ·have hd : (x == y) = false := by simp; exact fun e => hxy e.symm
    have hd2 : (y == x) = false := by simp; exact hxy
    have Hd := Lib.hid hd2
    clear hxy hd2
    go_wp2
    go_roundg (gk - 1)
    case measure => have := Hl.out; omega
    case rel => exact ⟨k + 1, by have := Hl.out; omega, by go_num, Lib.hid (any_step hlt Hx.out hu.out Hd.out), hN⟩
  ·have hle : l.length <= k := by omega
   have hu2 := hu.out
   rw [List.take_of_length_le hle] at hu2
   have Hu := Lib.hid hu2
   clear hu2
   go_wp2
   go_ret
   exact ⟨ret_i64 (findI_nope Hu.out).symm, hN⟩
set_option maxHeartbeats 1000000 in
theorem containsInt_any (A : Option Addr) (c : Nat) (l : List Int) (x : Int) (w : World) (hA : Rd EInt w A l) (hmax : l.length <= 2199023255552) :
 Calls Tryz.prog 100 #[.slice A l.length c, .int .i64 x] w fun e w' => e = .returned (.bool (seenB l x)) /\ Ext w w' := by
 have hfn := Lib.hid (findI_neg (p := fun y => y == x) (l := l))
 have hi := fun w hA => indexInt_any A c l x w hA hmax
 go_enter Tryz.func100, Tryz.ntmps100
 go_wp2_with fail
 refine (hi _ hA).mono ?_
 rintro e w1 ⟨rfl, hb⟩
 clear hi
 go_wp2
 go_ret
 exact ⟨ret_bool hfn.out, hb⟩
end
section
open Go.RowKit
def invT : List Nat := [0, 241, 226, 19, 196, 53, 38, 215, 136, 121, 106, 155, 76, 189, 174, 95, 16, 225, 242, 3, 212, 37, 54, 199, 152, 105, 122, 139, 92, 173, 190, 79, 32, 209, 194, 51, 228, 21, 6, 247, 168, 89, 74, 187, 108, 157, 142, 127, 48, 193, 210, 35, 244, 5, 22, 231, 184, 73, 90, 171, 124, 141, 158, 111, 177, 64, 83, 162, 117, 132, 151, 102, 57, 200, 219, 42, 253, 12, 31, 238, 161, 80, 67, 178, 101, 148, 135, 118, 41, 216, 203, 58, 237, 28, 15, 254, 145, 96, 115, 130, 85, 164, 183, 70, 25, 232, 251, 10, 221, 44, 63, 206, 129, 112, 99, 146, 69, 180, 167, 86, 9, 248, 235, 26, 205, 60, 47, 222, 98, 147, 128, 113, 166, 87, 68, 181, 234, 27, 8, 249, 46, 223, 204, 61, 114, 131, 144, 97, 182, 71, 84, 165, 250, 11, 24, 233, 62, 207, 220, 45, 66, 179, 160, 81, 134, 119, 100, 149, 202, 59, 40, 217, 14, 255, 236, 29, 82, 163, 176, 65, 150, 103, 116, 133, 218, 43, 56, 201, 30, 239, 252, 13, 211, 34, 49, 192, 23, 230, 245, 4, 91, 170, 185, 72, 159, 110, 125, 140, 195, 50, 33, 208, 7, 246, 229, 20, 75, 186, 169, 88, 143, 126, 109, 156, 243, 2, 17, 224, 55, 198, 213, 36, 123, 138, 153, 104, 191, 78, 93, 172, 227, 18, 1, 240, 39, 214, 197, 52, 107, 154, 137, 120, 175, 94, 77, 188]
theorem invT_all : ((List.range 256).all fun x => invT.getD (cst (UInt8.ofNat x).toUInt32 >>> 24).toNat 0 == x) = true := by decide +kernel
theorem invT_at (x : UInt8) : invT.getD (cst x.toUInt32 >>> 24).toNat 0 = x.toNat := by
 have h := List.all_eq_true.1 invT_all x.toNat (List.mem_range.2 x.toNat_lt)
 rw [beq_iff_eq, show UInt8.ofNat x.toNat = x from UInt8.ofNat_toNat] at h
 exact h
theorem u32_top (r y : UInt32) : ((r >>> 8) ^^^ y) >>> 24 = y >>> 24 := by
 apply UInt32.toNat_inj.1
 rw [UInt32.toNat_shiftRight, UInt32.toNat_shiftRight, UInt32.toNat_xor, UInt32.toNat_shiftRight, Nat.shiftRight_xor_distrib]
 have h := r.toNat_lt
 have e : r.toNat >>> ((8 : UInt32).toNat % 32) >>> ((24 : UInt32).toNat % 32) = 0 := by
  show r.toNat >>> 8 >>> 24 = 0
  rw [<- Nat.shiftRight_add, Nat.shiftRight_eq_div_pow]
  omega
 rw [e, Nat.zero_xor]
def crcT (r : UInt32) (b : UInt8) : UInt32 := (r >>> 8) ^^^ cst (r.toUInt8 ^^^ b).toUInt32
theorem crcU_cons (r : UInt32) (b : UInt8) (s : Bts) : crcU r (b :: s) = crcU (crcT r b) s := rfl
theorem crcU_app (r : UInt32) (a b : Bts) : crcU r (a ++ b) = crcU (crcU r a) b := by unfold crcU; rw [List.foldl_append]
theorem crcT_inj {r r' : UInt32} {b b' : UInt8} (h : crcT r b = crcT r' b') : r.toUInt8 ^^^ b = r'.toUInt8 ^^^ b' /\ r >>> 8 = r' >>> 8 := by
 have h1 : r.toUInt8 ^^^ b = r'.toUInt8 ^^^ b' := by
  have h2 := congrArg (· >>> (24 : UInt32)) h
  simp only [crcT, u32_top] at h2
  have h3 := invT_at (r.toUInt8 ^^^ b)
  rw [h2, invT_at] at h3
  exact UInt8.toNat_inj.1 h3.symm
 refine ⟨h1, ?_⟩
 unfold crcT at h
 rw [h1] at h
 have h4 := congrArg (· ^^^ cst (r'.toUInt8 ^^^ b').toUInt32) h
 simpa only [UInt32.xor_assoc, UInt32.xor_self, UInt32.xor_zero] using h4
theorem u32_split {r r' : UInt32} (h1 : r.toUInt8 = r'.toUInt8) (h2 : r >>> 8 = r' >>> 8) : r = r' := by
 apply UInt32.toNat_inj.1
 have a1 := congrArg UInt8.toNat h1
 have a2 := congrArg UInt32.toNat h2
 rw [UInt32.toNat_shiftRight, UInt32.toNat_shiftRight, Nat.shiftRight_eq_div_pow, Nat.shiftRight_eq_div_pow] at a2
 have a3 : r.toNat / 256 = r'.toNat / 256 := a2
 have a4 : r.toNat % 256 = r'.toNat % 256 := a1
 omega
theorem u8_cancel {a b c : UInt8} (h : a ^^^ b = a ^^^ c) : b = c := by
 have h4 := congrArg (a ^^^ ·) h
 simpa only [<- UInt8.xor_assoc, UInt8.xor_self, UInt8.zero_xor] using h4
theorem u8_cancelr {a b c : UInt8} (h : b ^^^ a = c ^^^ a) : b = c := by
 have h4 := congrArg (· ^^^ a) h
 simpa only [UInt8.xor_assoc, UInt8.xor_self, UInt8.xor_zero] using h4
theorem crcU_state : ∀ {s : Bts} {r r' : UInt32}, crcU r s = crcU r' s -> r = r'
 | [], _, _, h => h
 | b :: s, r, r', h => by
   rw [crcU_cons, crcU_cons] at h
   obtain ⟨h1, h2⟩ := crcT_inj (crcU_state h)
   exact u32_split (u8_cancelr h1) h2
theorem crcU_byte {a b : Bts} {x y : UInt8} {r : UInt32} (h : crcU r (a ++ x :: b) = crcU r (a ++ y :: b)) : x = y := by
 rw [crcU_app, crcU_app, crcU_cons, crcU_cons] at h
 exact u8_cancel (crcT_inj (crcU_state h)).1
theorem ctail_inj {a b : Bts} (h : ctail a = ctail b) : crcU 4294967295 a = crcU 4294967295 b := by
 unfold ctail at h
 dsimp only at h
 injection h with h1 h
 injection h with h2 h
 injection h with h3 h
 injection h with h4 h
 have key : crcS a = crcS b := by
  generalize crcS a = n at *
  generalize crcS b = m at *
  have sh : ∀ (x : UInt32) (k : UInt32), (x >>> k).toUInt8.toNat = x.toNat / 2 ^ (k.toNat % 32) % 256 := fun x k => by
   show (x >>> k).toNat % 256 = _
   rw [UInt32.toNat_shiftRight, Nat.shiftRight_eq_div_pow]
  have a1 : n.toNat % 256 = m.toNat % 256 := congrArg UInt8.toNat h1
  have a2 := congrArg UInt8.toNat h2
  have a3 := congrArg UInt8.toNat h3
  have a4 := congrArg UInt8.toNat h4
  rw [sh, sh] at a2 a3 a4
  have a2 : n.toNat / 256 % 256 = m.toNat / 256 % 256 := a2
  have a3 : n.toNat / 65536 % 256 = m.toNat / 65536 % 256 := a3
  have a4 : n.toNat / 16777216 % 256 = m.toNat / 16777216 % 256 := a4
  have b1 := n.toNat_lt
  have b2 := m.toNat_lt
  apply UInt32.toNat_inj.1
  omega
 unfold crcS at key
 have h4 := congrArg (· ^^^ (4294967295 : UInt32)) key
 simpa only [UInt32.xor_assoc, UInt32.xor_self, UInt32.xor_zero] using h4
theorem set_split {s : Bts} {i : Nat} (h : i < s.length) (v : UInt8) : s = s.take i ++ s[i] :: s.drop (i + 1) /\ s.set i v = s.take i ++ v :: s.drop (i + 1) := by
 refine ⟨by rw [<- List.drop_eq_getElem_cons h, List.take_append_drop], ?_⟩
 rw [List.set_eq_take_append_cons_drop, if_pos h]
theorem ctail_set {s : Bts} {i : Nat} (h : i < s.length) {v : UInt8} (hv : v ≠ s[i]) : ctail (s.set i v) ≠ ctail s := by
 intro he
 have h1 := ctail_inj he
 obtain ⟨e1, e2⟩ := set_split h v
 rw [e2, show crcU 4294967295 s = crcU 4294967295 (s.take i ++ s[i] :: s.drop (i + 1)) from congrArg _ e1] at h1
 exact hv (crcU_byte h1)
theorem opn_set {t : Bts} (ht : t.length <= 65536) {i : Nat} (hp : (vint (t.length : Int)).length <= i) (hi : i < (sealB t).length) {v : UInt8} (hv : v ≠ (sealB t)[i]) : (opn ((sealB t).set i v)).1 ≠ 0 := by
 have hc : (ctail (vtext t)).length = 4 := rfl
 have hl : (vint (t.length : Int)).length + t.length = (vtext t).length := by unfold vtext; rw [List.length_append]
 have hs : sealB t = vtext t ++ ctail (vtext t) := rfl
 have e0 : (sealB t).set i v = vint t.length ++ (t ++ ctail (vtext t)).set (i - (vint (t.length : Int)).length) v := by
  rw [hs, vtext, List.append_assoc, List.set_append_right _ _ hp]
 have hr : rdI ((sealB t).set i v) = (0, (t.length : Int), (vint (t.length : Int)).length) := by rw [e0, rdI_vint (by omega)]
 unfold opn
 rw [hr]
 dsimp only
 rw [if_neg (by simp), if_neg (by omega), Int.toNat_natCast, hl]
 split
 ·simp
 ·rw [if_pos]
  ·simp
  ·by_cases hlt : i < (vtext t).length
   ·have h1 : (sealB t).set i v = (vtext t).set i v ++ ctail (vtext t) := by rw [hs, List.set_append_left _ _ hlt]
    have hx : (sealB t)[i] = (vtext t)[i] := by simp only [hs, List.getElem_append_left hlt]
    rw [h1, List.take_left' (by simp), List.drop_left' (by simp), List.take_of_length_le (by rw [hc]; exact Nat.le_refl _)]
    exact ctail_set hlt (by rw [<- hx]; exact hv)
   ·have h1 : (sealB t).set i v = vtext t ++ (ctail (vtext t)).set (i - (vtext t).length) v := by rw [hs, List.set_append_right _ _ (by omega)]
    have hk : i - (vtext t).length < (ctail (vtext t)).length := by rw [hs, List.length_append] at hi; omega
    have hx : (sealB t)[i] = (ctail (vtext t))[i - (vtext t).length] := by simp only [hs]; rw [List.getElem_append_right (by omega)]
    rw [h1, List.take_left' rfl, List.drop_left' rfl, List.take_of_length_le (by rw [List.length_set, hc]; exact Nat.le_refl _)]
    intro he
    have h2 : (ctail (vtext t))[i - (vtext t).length]'hk = v := by
     have h3 : (ctail (vtext t))[i - (vtext t).length]? = ((ctail (vtext t)).set (i - (vtext t).length) v)[i - (vtext t).length]? := by rw [<- he]
     rw [List.getElem?_set_self hk, List.getElem?_eq_getElem hk] at h3
     injection h3
    exact hv (by rw [hx, h2])
theorem vint_pre {k : Nat} (hk : k <= 65536) : 1 <= (vint (k : Int)).length /\ (vint (k : Int)).length <= 3 /\ ∀ (i : Nat) (h : i < (vint (k : Int)).length), i + 1 < (vint (k : Int)).length -> 128 <= ((vint (k : Int))[i]).toNat := by
 have hz : zig (k : Int) = 2 * k := by unfold zig; rw [if_neg (by omega)]; omega
 have hz9 : zig (k : Int) < 9223372036854775808 := by omega
 obtain ⟨g1, g2, g3⟩ := ngr_spec hz9
 have hn : (vint (k : Int)).length = ngr (zig k) + 1 := vintN_len _
 have h2 : ngr (zig (k : Int)) <= 2 := by
  apply Classical.byContradiction
  intro hh
  have := g2 2 (by omega)
  omega
 refine ⟨by omega, by omega, fun i h h1 => ?_⟩
 have : (vint (k : Int))[i] = gby (zig k) i := by simp [vint, vintN_gby]
 rw [this, gby_val, if_neg (by omega)]
 omega
end
end Go.Proofs.YtemkpimngbbpkaaGreat
