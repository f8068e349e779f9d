/- Security: varint, the groups of a number. -/
import Derived.RangeFuncNested
import Derived.RangeFuncOwn
import Derived.LoopIn
import Derived.Test.YtemkpimngbbpkaaGreatQs09
import Derived.Test.YtemkpimngbbpkaaGreatQs11
namespace Go.Proofs.YtemkpimngbbpkaaGreat
set_option linter.unusedVariables false
set_option linter.unusedSimpArgs false
open Go.RowKit
attribute [local go_sem] Oper.semAt_some
theorem ngrF_spec (z : Nat) : ∀ (f k : Nat), (∀ j, j < k -> 128 <= z / 128 ^ j) -> z / 128 ^ (k + f) < 128 -> z / 128 ^ (ngrF z f k) < 128 /\ (∀ j, j < ngrF z f k -> 128 <= z / 128 ^ j) /\ ngrF z f k <= k + f
 | 0, k, h, h1 => ⟨by simpa [ngrF] using h1, by simpa [ngrF] using h, by simp [ngrF]⟩
 | f + 1, k, h, h1 => by
   unfold ngrF
   split
   ·rename_i h2
    exact ⟨h2, h, by omega⟩
   ·rename_i h2
    have := ngrF_spec z f (k + 1) (fun j hj => by
     rcases Nat.lt_or_ge j k with h3 | h3
     ·exact h j h3
     ·obtain rfl : j = k := by omega
      omega) (by rw [show k + 1 + f = k + (f + 1) by omega]; exact h1)
    exact ⟨this.1, this.2.1, by omega⟩
theorem ngr_spec {z : Nat} (hz : z < 9223372036854775808) : z / 128 ^ ngr z < 128 /\ (∀ j, j < ngr z -> 128 <= z / 128 ^ j) /\ ngr z <= 8 := by
 have h9 : z / 128 ^ 9 = 0 := Nat.div_eq_of_lt (Nat.lt_of_lt_of_le hz (by decide +kernel))
 have h8 : z / 128 ^ 8 < 128 := by
  rw [Nat.div_lt_iff_lt_mul (by decide +kernel)]
  exact Nat.lt_of_lt_of_le hz (by decide +kernel)
 have h := ngrF_spec z 9 0 (fun j hj => by omega) (by rw [Nat.zero_add, h9]; omega)
 refine ⟨h.1, h.2.1, ?_⟩
 rcases Nat.lt_or_ge 8 (ngr z) with h2 | h2
 ·have := h.2.1 8 h2
  omega
 ·exact h2
theorem div7 (z j : Nat) : (z : Int) / 2 ^ (7 * j) = ((z / 128 ^ j : Nat) : Int) := by
 rw [Int.natCast_ediv, Int.natCast_pow, Int.pow_mul]
 rfl
theorem and127 (z j : Nat) : bits .and .u8 (((z / 128 ^ j : Nat) : Int) % 256) 127 = ((z / 128 ^ j % 128 : Nat) : Int) := by
 rw [show (((z / 128 ^ j : Nat) : Int) % 256) = ((z / 128 ^ j % 256 : Nat) : Int) from rfl, show (127 : Int) = ((127 : Nat) : Int) from rfl, u8_and_nat _ _ (by omega) (by omega)]
 have h := Nat.and_two_pow_sub_one_eq_mod (z / 128 ^ j % 256) 7
 rw [show (2 ^ 7 - 1 : Nat) = 127 from rfl] at h
 rw [h]
 omega
set_option maxHeartbeats 1000000 in
theorem zigzag_any (n : Int) (w : World) (h : -1152921504606846976 <= n /\ n <= 1152921504606846976) :
 Calls Tryz.prog 187 #[.int .i64 n] w fun e w' => e = .returned (.int .i64 (zig n)) /\ w = w' := by
 by_cases hn : n < 0
 ·have H := Lib.hid (show ((zig n : Nat) : Int) = -2 * n - 1 by unfold zig; rw [if_pos hn]; omega)
  go_enter Tryz.func187, Tryz.ntmps187
  go_wp2
  go_ret
  exact ⟨by rw [H.out]; first | rfl | (apply ret_intK; omega), rfl⟩
 ·have H := Lib.hid (show ((zig n : Nat) : Int) = 2 * n by unfold zig; rw [if_neg hn]; omega)
  go_enter Tryz.func187, Tryz.ntmps187
  go_wp2
  go_ret
  exact ⟨by rw [H.out]; first | rfl | (apply ret_intK; omega), rfl⟩
set_option maxHeartbeats 1000000 in
theorem inRange_any (n : Int) (w : World) :
 Calls Tryz.prog 185 #[.int .i64 n] w fun e w' => e = .returned (.bool (decide (-1152921504606846976 <= n /\ n <= 1152921504606846976))) /\ w = w' := by
 go_enter Tryz.func185, Tryz.ntmps185
 go_wp2
 all_goals go_ret
 all_goals refine ⟨?_, rfl⟩
 all_goals refine congrArg (fun b => Ending.returned (.bool b)) ?_
 all_goals simp_all
 all_goals omega
abbrev GrX (z : Nat) := { i : Nat // i <= ngr z }
def grV {z : Nat} (x : GrX z) : Array Value := #[.int .u8 ((z / 128 ^ (ngr z - x.1) % 128 : Nat) : Int), .bool (decide (x.1 = ngr z))]
def grI {z : Nat} (ys : List (GrX z)) : List Nat := ys.map (·.1)
theorem grI_snoc {z : Nat} (ys : List (GrX z)) (x : GrX z) : grI (ys ++ [x]) = grI ys ++ [x.1] := by simp [grI]
def GrP {z : Nat} (ys : List (GrX z)) : Prop := grI ys = List.range ys.length
def GrF {z : Nat} (ys : List (GrX z)) : Prop := grI ys = List.range (ngr z + 1)
theorem grP_nil {z : Nat} : GrP ([] : List (GrX z)) := rfl
set_option maxRecDepth 100000 in
set_option maxHeartbeats 4000000 in
theorem groups_iter (l B n₁ : Nat) (S : Nat -> Prop) (z : Nat) (W : World) (hz : z < 9223372036854775808) (kb : Blk W B 3 #[.int .i64 z]) (hB : B < n₁ /\ ¬ S B)
 (J Jx : List (GrX z) -> World -> Prop)
 (hY : ∀ pre x W, J pre W -> pre.length < 65 -> YieldAt Fence.wide 3 Tryz.prog l (grV x) W fun e W' =>
  (e = .returned (.bool true) /\ J (pre ++ [x]) W' /\ KpP n₁ S W W') ∨ (e = .returned (.bool false) /\ Jx (pre ++ [x]) W'))
 (hj : J [] W) :
 CallsIn Fence.wide 4 Tryz.prog 250 #[.func (.yield l) #[] #[], .pointer (some ⟨B, 0, none⟩)] W fun e W' => (∃ v, e = .returned v) /\
  ((∃ ys : List (GrX z), GrF ys /\ J ys W') ∨ (∃ pre : List (GrX z), True /\ Jx pre W')) := by
 obtain ⟨hs1, hs2, hs3⟩ := ngr_spec hz
 obtain ⟨K, hK⟩ : ∃ K, ngr z = K := ⟨_, rfl⟩
 rw [hK] at hs1 hs2 hs3
 have HK := Lib.hid hK
 have Hs1 := Lib.hid hs1
 have Hs2 := Lib.hid hs2
 have c1 := kb.cell
 have c2 := kb.lt
 clear hs1 hs2 hK
 refine callsIn_of_wp Tryz.func250 rfl trivial ?_ rfl
 simp only [Tryz.ntmps250, List.size_toArray, List.length_cons, List.length_nil, Nat.reduceAdd, Nat.reduceSub, Array.replicate_succ, Array.replicate_zero, List.push_toArray, List.append_toArray, List.nil_append, List.cons_append]
 gi_wp2
 gi_loopw [3] (fun v wr => ∃ j : Nat, j <= K /\ v = .int .i64 (7 * (j : Int)) /\ wr = W) (fun v _ => K * 7 - (intOf v).toNat)
 case atStart => exact ⟨0, Nat.zero_le _, rfl, rfl⟩
 case round =>
  obtain ⟨j, hjK, rfl, rfl⟩ := hrel
  have q1 := div7 z j
  obtain ⟨d, hd⟩ : ∃ d, z / 128 ^ j = d := ⟨_, rfl⟩
  rw [hd] at q1
  by_cases hlt : j < K
  ·have h9 := Hs2.out j hlt
   rw [hd] at h9
   have d1 : decide ((128 : Int) <= (d : Int)) = true := decide_eq_true (by omega)
   clear hd h9
   gi_wp2
   go_roundw
   case rel => exact ⟨j + 1, by omega, by go_num, trivial⟩
   case measure => simp [intOf]; omega
  ·obtain rfl : j = K := by omega
   have h9 := Hs1.out
   rw [hd] at h9
   have d1 : decide ((128 : Int) <= (d : Int)) = false := decide_eq_false (by omega)
   clear hd h9
   gi_wp2
   clear d1 q1 c1 c2
   gi_loopw [3] (fun v wx => (∃ (i : Nat) (pre : List (GrX z)), pre.length + i = j /\ v = .int .i64 (7 * (i : Int)) /\ GrP pre /\ J pre wx /\ Blk wx B 3 #[.int .i64 z]) ∨ (v = .int .i64 (-7) /\ ∃ pre : List (GrX z), GrF pre /\ J pre wx)) (fun v _ => (intOf v + 7).toNat)
   case atStart => exact .inl ⟨j, [], by simp, rfl, grP_nil, hj, kb⟩
   case round =>
    rcases hrel with ⟨i, pre, hpi, rfl, hpre, hjr, kx⟩ | ⟨rfl, pre, hpre, hjr⟩
    case inr =>
     gi_wp2
     go_end0
     exact ⟨⟨_, rfl⟩, .inl ⟨pre, hpre, hjr⟩⟩
    have hxl : pre.length <= ngr z := by rw [HK.out]; omega
    obtain ⟨fn, tmps, assign, body, hy, hR⟩ := hY pre ⟨pre.length, hxl⟩ wr hjr (by omega)
    dsimp only [grV] at hy
    have e1 : ngr z - pre.length = i := by rw [HK.out]; omega
    rw [e1] at hy
    have q1 := div7 z i
    have q2 := and127 z i
    obtain ⟨d, hd⟩ : ∃ d, z / 128 ^ i = d := ⟨_, rfl⟩
    rw [hd] at q1 q2 hy
    obtain ⟨d7, hd7⟩ : ∃ d7, d % 128 = d7 := ⟨_, rfl⟩
    rw [hd7] at q2 hy
    have q3 : ((7 * (i : Int)) == 0) = decide (pre.length = ngr z) := by
     rw [HK.out, Bool.eq_iff_iff]
     simp only [beq_iff_eq, decide_eq_true_eq]
     omega
    obtain ⟨lb, hlb⟩ : ∃ lb, decide (pre.length = ngr z) = lb := ⟨_, rfl⟩
    rw [hlb] at q3 hy
    have Hpre := Lib.hid hpre
    have Hpi := Lib.hid hpi
    have hi8 : i <= 8 := by omega
    have c1 := kx.cell
    have c2 := kx.lt
    clear hpre hd hd7 hlb e1 hpi
    gi_wp2
    refine hR.mono ?_
    rintro e W6 (⟨rfl, hJ6, hk6⟩ | ⟨rfl, hJx6⟩)
    ·have kx6 := hk6.blk kx hB.1 hB.2
     clear c1 c2
     gi_wp2
     go_roundw
     case rel =>
      have hsn : grI (pre ++ [⟨pre.length, hxl⟩]) = List.range (pre.length + 1) := by rw [grI_snoc, List.range_succ]; rw [show grI pre = List.range pre.length from Hpre.out]
      rcases Nat.eq_zero_or_pos i with h0 | h0
      ·subst h0
       refine .inr ⟨by go_num, _, ?_, hJ6⟩
       unfold GrF
       rw [hsn, HK.out]
       have := Hpi.out
       rw [show pre.length = j by omega]
      ·refine .inl ⟨i - 1, _, by simp; have := Hpi.out; omega, by first | (congr 1; omega) | go_num, ?_, hJ6, kx6⟩
       unfold GrP
       rw [hsn]
       simp
     case measure => simp [intOf]; omega
    ·gi_wp2
     refine bodyPost_ret (results_none rfl _ _ _) rfl ?_
     exact ⟨⟨_, rfl⟩, .inr ⟨_, trivial, hJx6⟩⟩
end Go.Proofs.YtemkpimngbbpkaaGreat
