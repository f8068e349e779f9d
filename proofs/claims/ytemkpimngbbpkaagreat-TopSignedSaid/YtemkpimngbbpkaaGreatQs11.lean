/- Security: the keyed hash. · Security: words and their bytes. -/
import Derived.Test.YtemkpimngbbpkaaGreatRows
import Derived.Laws.CopyOwn
import Derived.Laws.IdiomCopy
import Derived.StillTailTactics
import Derived.Laws.BitsAllLaws
import Derived.Laws.Bits64b
import Derived.Test.YtemkpimngbbpkaaGreatQs01
import Derived.Test.YtemkpimngbbpkaaGreatQs10
namespace Go.Proofs.YtemkpimngbbpkaaGreat
set_option linter.unusedVariables false
set_option linter.unusedSimpArgs false
section
open Go.RowKit
attribute [local go_sem] Oper.semAt_some
theorem u64lt (a : UInt64) : a.toNat < 18446744073709551616 := a.toNat_lt
theorem u64_add (a b : UInt64) : IntKind.u64.wrap ((a.toNat : Int) + (b.toNat : Int)) = ((a + b).toNat : Int) := by
 rw [IntKind.wrap_u64, UInt64.toNat_add]
 omega
theorem u64_xor (a b : UInt64) : bits .xor .u64 (a.toNat : Int) (b.toNat : Int) = ((a ^^^ b).toNat : Int) := by
 rw [bits_xor_u64_nat _ _ (u64lt a) (u64lt b), UInt64.toNat_xor]
theorem u64_or (a b : UInt64) : bits .or .u64 (a.toNat : Int) (b.toNat : Int) = ((a ||| b).toNat : Int) := by
 rw [bits_or_u64_nat _ _ (u64lt a) (u64lt b), UInt64.toNat_or]
theorem h64c : ((2 ^ 64 : Nat) : Int) = 18446744073709551616 := by decide +kernel
theorem u64_shl (x : UInt64) (k : Nat) (hk : k < 64) : (x.toNat : Int) <<< k % 18446744073709551616 = ((x <<< UInt64.ofNat k).toNat : Int) := by
 rw [UInt64.toNat_shiftLeft, Nat.shiftLeft_eq, Int.shiftLeft_eq]
 have e : (UInt64.ofNat k).toNat % 64 = k := by rw [UInt64.toNat_ofNat']; omega
 rw [e, Int.natCast_emod, Int.natCast_mul, Int.natCast_pow, h64c, show ((2 : Nat) : Int) = 2 from rfl]
theorem u64_shr (x : UInt64) (k : Nat) (hk : k < 64) : (x.toNat : Int) / 2 ^ k = ((x >>> UInt64.ofNat k).toNat : Int) := by
 rw [UInt64.toNat_shiftRight, Nat.shiftRight_eq_div_pow]
 have e : (UInt64.ofNat k).toNat % 64 = k := by rw [UInt64.toNat_ofNat']; omega
 rw [e, Int.natCast_ediv, Int.natCast_pow, show ((2 : Nat) : Int) = 2 from rfl]
theorem ret_intK {k : IntKind} {a b : Int} (h : a = b) : Ending.returned (.int k a) = .returned (.int k b) := by rw [h]
theorem rl_of (x : UInt64) (k j : Nat) (k' : UInt64) (hk : k < 64) (hj : j < 64) (h1 : k' = UInt64.ofNat k) (h2 : 64 - k' = UInt64.ofNat j) : bits .or .u64 (IntKind.u64.wrap ((x.toNat : Int) * 2 ^ k)) ((x.toNat : Int) / 2 ^ j) = ((rl x k').toNat : Int) := by
 rw [IntKind.wrap_u64, <- Int.shiftLeft_eq, u64_shl x k hk, u64_shr x j hj, u64_or]
 unfold rl
 rw [h2, h1]
set_option maxRecDepth 100000 in
set_option maxHeartbeats 4000000 in
theorem rot13_any (x : UInt64) (w : World) :
 Calls Tryz.prog 317 #[.int .u64 x.toNat, .int .i64 13] w fun e w' => e = .returned (.int .u64 (rl x 13).toNat) /\ w = w' := by
 have e1 : bits .and .u64 13 63 = 13 := by decide +kernel
 have H := rl_of x 13 51 13 (by decide) (by decide) (by decide +kernel) (by decide +kernel)
 rw [show (2 : Int) ^ 13 = 8192 from by decide +kernel, show (2 : Int) ^ 51 = 2251799813685248 from by decide +kernel] at H
 go_enter Tryz.func317, Tryz.ntmps317
 go_wp2
 go_ret
 exact ⟨rfl, rfl⟩
set_option maxRecDepth 100000 in
set_option maxHeartbeats 4000000 in
theorem rot16_any (x : UInt64) (w : World) :
 Calls Tryz.prog 317 #[.int .u64 x.toNat, .int .i64 16] w fun e w' => e = .returned (.int .u64 (rl x 16).toNat) /\ w = w' := by
 have e1 : bits .and .u64 16 63 = 16 := by decide +kernel
 have H := rl_of x 16 48 16 (by decide) (by decide) (by decide +kernel) (by decide +kernel)
 rw [show (2 : Int) ^ 16 = 65536 from by decide +kernel, show (2 : Int) ^ 48 = 281474976710656 from by decide +kernel] at H
 go_enter Tryz.func317, Tryz.ntmps317
 go_wp2
 go_ret
 exact ⟨rfl, rfl⟩
set_option maxRecDepth 100000 in
set_option maxHeartbeats 4000000 in
theorem rot17_any (x : UInt64) (w : World) :
 Calls Tryz.prog 317 #[.int .u64 x.toNat, .int .i64 17] w fun e w' => e = .returned (.int .u64 (rl x 17).toNat) /\ w = w' := by
 have e1 : bits .and .u64 17 63 = 17 := by decide +kernel
 have H := rl_of x 17 47 17 (by decide) (by decide) (by decide +kernel) (by decide +kernel)
 rw [show (2 : Int) ^ 17 = 131072 from by decide +kernel, show (2 : Int) ^ 47 = 140737488355328 from by decide +kernel] at H
 go_enter Tryz.func317, Tryz.ntmps317
 go_wp2
 go_ret
 exact ⟨rfl, rfl⟩
set_option maxRecDepth 100000 in
set_option maxHeartbeats 4000000 in
theorem rot21_any (x : UInt64) (w : World) :
 Calls Tryz.prog 317 #[.int .u64 x.toNat, .int .i64 21] w fun e w' => e = .returned (.int .u64 (rl x 21).toNat) /\ w = w' := by
 have e1 : bits .and .u64 21 63 = 21 := by decide +kernel
 have H := rl_of x 21 43 21 (by decide) (by decide) (by decide +kernel) (by decide +kernel)
 rw [show (2 : Int) ^ 21 = 2097152 from by decide +kernel, show (2 : Int) ^ 43 = 8796093022208 from by decide +kernel] at H
 go_enter Tryz.func317, Tryz.ntmps317
 go_wp2
 go_ret
 exact ⟨rfl, rfl⟩
set_option maxRecDepth 100000 in
set_option maxHeartbeats 4000000 in
theorem rot32_any (x : UInt64) (w : World) :
 Calls Tryz.prog 317 #[.int .u64 x.toNat, .int .i64 32] w fun e w' => e = .returned (.int .u64 (rl x 32).toNat) /\ w = w' := by
 have e1 : bits .and .u64 32 63 = 32 := by decide +kernel
 have H := rl_of x 32 32 32 (by decide) (by decide) (by decide +kernel) (by decide +kernel)
 rw [show (2 : Int) ^ 32 = 4294967296 from by decide +kernel] at H
 go_enter Tryz.func317, Tryz.ntmps317
 go_wp2
 go_ret
 exact ⟨rfl, rfl⟩
def Q4.cells (v : Q4) : Array Value := #[.int .u64 v.a.toNat, .int .u64 v.b.toNat, .int .u64 v.c.toNat, .int .u64 v.d.toNat]
set_option maxRecDepth 100000 in
set_option maxHeartbeats 16000000 in
theorem round_any (B : Nat) (v : Q4) (w : World) (k : Blk w B 391 v.cells) :
 Calls Tryz.prog 271 #[.pointer (some ⟨B, 0, none⟩)] w fun e w' => (∃ r, e = .returned r) /\ Blk w' B 391 v.rnd.cells /\ w.grownBy w' (some B) := by
 obtain ⟨a, b, c, d⟩ := v
 unfold Q4.cells at k
 dsimp only at k
 have g0 := World.grownBy.refl w (some B)
 have k0 := k
 obtain ⟨va1, hq0⟩ : ∃ x, a + b = x := ⟨_, rfl⟩
 have qq := u64_add a b
 rw [hq0] at qq
 have Hhq0 := Lib.hid hq0
 clear hq0
 have c1 := k0.cell
 have c2 := k0.lt
 have c3 := k0.frozen
 go_enter Tryz.func271, Tryz.ntmps271
 go_wp2_with fail
 go_region
 obtain ⟨W1, hW, k1, g1⟩ : ∃ x, (w.setCell ⟨B, 0, none⟩ (.int .u64 va1.toNat)).drew = x /\ Blk x B 391 #[.int .u64 va1.toNat, .int .u64 b.toNat, .int .u64 c.toNat, .int .u64 d.toNat] /\ w.grownBy x (some B) :=
  ⟨_, rfl, (k0.set_ 0 _).ext (Ext.refl _).drew, grown_ext (grown_setCell g0 0 _) (Ext.refl _).drew⟩
 rw [hW]
 clear hW c1 c2 c3 k0 g0 qq
 have k0 := k1
 have g0 := g1
 clear k1 g1
 obtain ⟨vb1, hq1⟩ : ∃ x, rl b 13 ^^^ va1 = x := ⟨_, rfl⟩
 have qq := u64_xor (rl b 13) va1
 rw [hq1] at qq
 have hr := fun w => rot13_any b w
 have Hhq1 := Lib.hid hq1
 clear hq1
 have c1 := k0.cell
 have c2 := k0.lt
 have c3 := k0.frozen
 go_wp2_with fail
 have hS0 : Ext W1 W1.drew /\ ∀ b o, b < W1.heap.size -> W1.drew.cell? ⟨b, o, none⟩ = W1.cell? ⟨b, o, none⟩ := ⟨(Ext.refl W1).drew, fun _ _ _ => rfl⟩
 refine wp_region_P (fun k => decide (13 <= k)) (fun w' => Ext W1 w' /\ ∀ b o, b < W1.heap.size -> w'.cell? ⟨b, o, none⟩ = W1.cell? ⟨b, o, none⟩) (by kernel_rfl) hS0 (fun _ => ?_)
 refine pK 0 (v := ?_) rfl (fun _ _ _ h => h) (by rfl) ?_ (by assumption) ?_
 rotate_left
 ·intro w' hw'
  (try have hC := hw'.2)
  (try have hC9 := hw'.1)
  go_simp
  first | done | with_reducible rfl
 try simp only [Act.put, sp1]
 refine pK 1 (v := ?_) rfl (fun _ _ _ h => h) (by rfl) ?_ (by assumption) ?_
 rotate_left
 ·intro w' hw'
  (try have hC := hw'.2)
  (try have hC9 := hw'.1)
  go_simp
  first | done | with_reducible rfl
 try simp only [Act.put, sp1]
 refine pK 2 (v := ?_) rfl (fun _ _ _ h => h) (by rfl) ?_ (by assumption) ?_
 rotate_left
 ·intro w' hw'
  (try have hC := hw'.2)
  (try have hC9 := hw'.1)
  go_simp
  first | done | with_reducible rfl
 try simp only [Act.put, sp1]
 refine pK 3 (v := ?_) rfl (fun _ _ _ h => h) (by rfl) ?_ (by assumption) ?_
 rotate_left
 ·intro w' hw'
  (try have hC := hw'.2)
  (try have hC9 := hw'.1)
  go_simp
  first | done | with_reducible rfl
 try simp only [Act.put, sp1]
 refine pK 4 (v := ?_) rfl (fun _ _ _ h => h) (by rfl) ?_ (by assumption) ?_
 rotate_left
 ·intro w' hw'
  (try have hC := hw'.2)
  (try have hC9 := hw'.1)
  go_simp
  first | done | with_reducible rfl
 try simp only [Act.put, sp1]
 refine pK 6 (v := ?_) rfl (fun _ _ _ h => h) (by rfl) ?_ (by assumption) ?_
 rotate_left
 ·intro w' hw'
  (try have hC := hw'.2)
  (try have hC9 := hw'.1)
  go_simp
  first | done | with_reducible rfl
 try simp only [Act.put, sp1]
 refine pK 7 (v := ?_) rfl (fun _ _ _ h => h) (by rfl) ?_ (by assumption) ?_
 rotate_left
 ·intro w' hw'
  (try have hC := hw'.2)
  (try have hC9 := hw'.1)
  go_simp
  first | done | with_reducible rfl
 try simp only [Act.put, sp1]
 refine pK 8 (v := ?_) rfl (fun _ _ _ h => h) (by rfl) ?_ (by assumption) ?_
 rotate_left
 ·intro w' hw'
  (try have hC := hw'.2)
  (try have hC9 := hw'.1)
  go_simp
  first | done | with_reducible rfl
 try simp only [Act.put, sp1]
 refine pK 9 (v := ?_) rfl (fun _ _ _ h => h) (by rfl) ?_ (by assumption) ?_
 rotate_left
 ·intro w' hw'
  (try have hC := hw'.2)
  (try have hC9 := hw'.1)
  go_simp
  first | done | with_reducible rfl
 try simp only [Act.put, sp1]
 refine pT 11 (v := ?_) rfl (fun _ _ _ h => h) (by rfl) ?_ ?_
 rotate_left
 ·intro w'; go_simp; first | done | with_reducible rfl
 try simp only [Act.put, sp1]
 refine pO 5 rfl (fun K hK => ?_)
 go_simp
 refine (hr _).mono ?_
 rintro e w9 ⟨rfl, rfl⟩
 refine hK.out _ _ (fun _ _ => hS0) ?_
 clear hK K
 refine pT 10 (v := ?_) rfl (fun _ _ _ h => h) (by rfl) ?_ ?_
 rotate_left
 ·intro w'; go_simp; first | done | with_reducible rfl
 try simp only [Act.put, sp1]
 refine pT 12 (v := ?_) rfl (fun _ _ _ h => h) (by rfl) ?_ ?_
 rotate_left
 ·intro w'; go_simp; first | done | with_reducible rfl
 try simp only [Act.put, sp1]
 have c1 := (k0.ext (Ext.refl W1).drew).cell
 have c2 := (k0.ext (Ext.refl W1).drew).lt
 have c3 := (k0.ext (Ext.refl W1).drew).frozen
 refine pO 13 rfl (fun K hK => ?_)
 go_simp
 refine hK.out _ _ (fun h => absurd h (by decide)) ?_
 clear hK K
 refine wpAnyP_done (by kernel_rfl) ?_ _
 clear hr hS0
 obtain ⟨W2, hW, k1, g1⟩ : ∃ x, (W1.setCell ⟨B, 1, none⟩ (.int .u64 vb1.toNat)).drew = x /\ Blk x B 391 #[.int .u64 va1.toNat, .int .u64 vb1.toNat, .int .u64 c.toNat, .int .u64 d.toNat] /\ w.grownBy x (some B) :=
  ⟨_, rfl, (k0.set_ 1 _).ext (Ext.refl _).drew, grown_ext (grown_setCell g0 1 _) (Ext.refl _).drew⟩
 rw [hW]
 clear hW c1 c2 c3 k0 g0 qq
 have k0 := k1
 have g0 := g1
 clear k1 g1
 obtain ⟨va2, hq2⟩ : ∃ x, rl va1 32 = x := ⟨_, rfl⟩
 have hr := fun w => rot32_any va1 w
 rw [hq2] at hr
 have Hhq2 := Lib.hid hq2
 clear hq2
 have c1 := k0.cell
 have c2 := k0.lt
 have c3 := k0.frozen
 go_wp2_with fail
 have hS0 : Ext W2 W2.drew /\ ∀ b o, b < W2.heap.size -> W2.drew.cell? ⟨b, o, none⟩ = W2.cell? ⟨b, o, none⟩ := ⟨(Ext.refl W2).drew, fun _ _ _ => rfl⟩
 refine wp_region_P (fun k => decide (8 <= k)) (fun w' => Ext W2 w' /\ ∀ b o, b < W2.heap.size -> w'.cell? ⟨b, o, none⟩ = W2.cell? ⟨b, o, none⟩) (by kernel_rfl) hS0 (fun _ => ?_)
 refine pK 0 (v := ?_) rfl (fun _ _ _ h => h) (by rfl) ?_ (by assumption) ?_
 rotate_left
 ·intro w' hw'
  (try have hC := hw'.2)
  (try have hC9 := hw'.1)
  go_simp
  first | done | with_reducible rfl
 try simp only [Act.put, sp1]
 refine pK 1 (v := ?_) rfl (fun _ _ _ h => h) (by rfl) ?_ (by assumption) ?_
 rotate_left
 ·intro w' hw'
  (try have hC := hw'.2)
  (try have hC9 := hw'.1)
  go_simp
  first | done | with_reducible rfl
 try simp only [Act.put, sp1]
 refine pK 2 (v := ?_) rfl (fun _ _ _ h => h) (by rfl) ?_ (by assumption) ?_
 rotate_left
 ·intro w' hw'
  (try have hC := hw'.2)
  (try have hC9 := hw'.1)
  go_simp
  first | done | with_reducible rfl
 try simp only [Act.put, sp1]
 refine pK 3 (v := ?_) rfl (fun _ _ _ h => h) (by rfl) ?_ (by assumption) ?_
 rotate_left
 ·intro w' hw'
  (try have hC := hw'.2)
  (try have hC9 := hw'.1)
  go_simp
  first | done | with_reducible rfl
 try simp only [Act.put, sp1]
 refine pK 4 (v := ?_) rfl (fun _ _ _ h => h) (by rfl) ?_ (by assumption) ?_
 rotate_left
 ·intro w' hw'
  (try have hC := hw'.2)
  (try have hC9 := hw'.1)
  go_simp
  first | done | with_reducible rfl
 try simp only [Act.put, sp1]
 refine pT 6 (v := ?_) rfl (fun _ _ _ h => h) (by rfl) ?_ ?_
 rotate_left
 ·intro w'; go_simp; first | done | with_reducible rfl
 try simp only [Act.put, sp1]
 refine pO 5 rfl (fun K hK => ?_)
 go_simp
 refine (hr _).mono ?_
 rintro e w9 ⟨rfl, rfl⟩
 refine hK.out _ _ (fun _ _ => hS0) ?_
 clear hK K
 refine pT 7 (v := ?_) rfl (fun _ _ _ h => h) (by rfl) ?_ ?_
 rotate_left
 ·intro w'; go_simp; first | done | with_reducible rfl
 try simp only [Act.put, sp1]
 have c1 := (k0.ext (Ext.refl W2).drew).cell
 have c2 := (k0.ext (Ext.refl W2).drew).lt
 have c3 := (k0.ext (Ext.refl W2).drew).frozen
 refine pO 8 rfl (fun K hK => ?_)
 go_simp
 refine hK.out _ _ (fun h => absurd h (by decide)) ?_
 clear hK K
 refine wpAnyP_done (by kernel_rfl) ?_ _
 clear hr hS0
 obtain ⟨W3, hW, k1, g1⟩ : ∃ x, (W2.setCell ⟨B, 0, none⟩ (.int .u64 va2.toNat)).drew = x /\ Blk x B 391 #[.int .u64 va2.toNat, .int .u64 vb1.toNat, .int .u64 c.toNat, .int .u64 d.toNat] /\ w.grownBy x (some B) :=
  ⟨_, rfl, (k0.set_ 0 _).ext (Ext.refl _).drew, grown_ext (grown_setCell g0 0 _) (Ext.refl _).drew⟩
 rw [hW]
 clear hW c1 c2 c3 k0 g0
 have k0 := k1
 have g0 := g1
 clear k1 g1
 obtain ⟨vc1, hq3⟩ : ∃ x, c + d = x := ⟨_, rfl⟩
 have qq := u64_add c d
 rw [hq3] at qq
 have Hhq3 := Lib.hid hq3
 clear hq3
 have c1 := k0.cell
 have c2 := k0.lt
 have c3 := k0.frozen
 go_wp2_with fail
 go_region
 obtain ⟨W4, hW, k1, g1⟩ : ∃ x, (W3.setCell ⟨B, 2, none⟩ (.int .u64 vc1.toNat)).drew = x /\ Blk x B 391 #[.int .u64 va2.toNat, .int .u64 vb1.toNat, .int .u64 vc1.toNat, .int .u64 d.toNat] /\ w.grownBy x (some B) :=
  ⟨_, rfl, (k0.set_ 2 _).ext (Ext.refl _).drew, grown_ext (grown_setCell g0 2 _) (Ext.refl _).drew⟩
 rw [hW]
 clear hW c1 c2 c3 k0 g0 qq
 have k0 := k1
 have g0 := g1
 clear k1 g1
 obtain ⟨vd1, hq4⟩ : ∃ x, rl d 16 ^^^ vc1 = x := ⟨_, rfl⟩
 have qq := u64_xor (rl d 16) vc1
 rw [hq4] at qq
 have hr := fun w => rot16_any d w
 have Hhq4 := Lib.hid hq4
 clear hq4
 have c1 := k0.cell
 have c2 := k0.lt
 have c3 := k0.frozen
 go_wp2_with fail
 have hS0 : Ext W4 W4.drew /\ ∀ b o, b < W4.heap.size -> W4.drew.cell? ⟨b, o, none⟩ = W4.cell? ⟨b, o, none⟩ := ⟨(Ext.refl W4).drew, fun _ _ _ => rfl⟩
 refine wp_region_P (fun k => decide (13 <= k)) (fun w' => Ext W4 w' /\ ∀ b o, b < W4.heap.size -> w'.cell? ⟨b, o, none⟩ = W4.cell? ⟨b, o, none⟩) (by kernel_rfl) hS0 (fun _ => ?_)
 refine pK 0 (v := ?_) rfl (fun _ _ _ h => h) (by rfl) ?_ (by assumption) ?_
 rotate_left
 ·intro w' hw'
  (try have hC := hw'.2)
  (try have hC9 := hw'.1)
  go_simp
  first | done | with_reducible rfl
 try simp only [Act.put, sp1]
 refine pK 1 (v := ?_) rfl (fun _ _ _ h => h) (by rfl) ?_ (by assumption) ?_
 rotate_left
 ·intro w' hw'
  (try have hC := hw'.2)
  (try have hC9 := hw'.1)
  go_simp
  first | done | with_reducible rfl
 try simp only [Act.put, sp1]
 refine pK 2 (v := ?_) rfl (fun _ _ _ h => h) (by rfl) ?_ (by assumption) ?_
 rotate_left
 ·intro w' hw'
  (try have hC := hw'.2)
  (try have hC9 := hw'.1)
  go_simp
  first | done | with_reducible rfl
 try simp only [Act.put, sp1]
 refine pK 3 (v := ?_) rfl (fun _ _ _ h => h) (by rfl) ?_ (by assumption) ?_
 rotate_left
 ·intro w' hw'
  (try have hC := hw'.2)
  (try have hC9 := hw'.1)
  go_simp
  first | done | with_reducible rfl
 try simp only [Act.put, sp1]
 refine pK 4 (v := ?_) rfl (fun _ _ _ h => h) (by rfl) ?_ (by assumption) ?_
 rotate_left
 ·intro w' hw'
  (try have hC := hw'.2)
  (try have hC9 := hw'.1)
  go_simp
  first | done | with_reducible rfl
 try simp only [Act.put, sp1]
 refine pK 6 (v := ?_) rfl (fun _ _ _ h => h) (by rfl) ?_ (by assumption) ?_
 rotate_left
 ·intro w' hw'
  (try have hC := hw'.2)
  (try have hC9 := hw'.1)
  go_simp
  first | done | with_reducible rfl
 try simp only [Act.put, sp1]
 refine pK 7 (v := ?_) rfl (fun _ _ _ h => h) (by rfl) ?_ (by assumption) ?_
 rotate_left
 ·intro w' hw'
  (try have hC := hw'.2)
  (try have hC9 := hw'.1)
  go_simp
  first | done | with_reducible rfl
 try simp only [Act.put, sp1]
 refine pK 8 (v := ?_) rfl (fun _ _ _ h => h) (by rfl) ?_ (by assumption) ?_
 rotate_left
 ·intro w' hw'
  (try have hC := hw'.2)
  (try have hC9 := hw'.1)
  go_simp
  first | done | with_reducible rfl
 try simp only [Act.put, sp1]
 refine pK 9 (v := ?_) rfl (fun _ _ _ h => h) (by rfl) ?_ (by assumption) ?_
 rotate_left
 ·intro w' hw'
  (try have hC := hw'.2)
  (try have hC9 := hw'.1)
  go_simp
  first | done | with_reducible rfl
 try simp only [Act.put, sp1]
 refine pT 11 (v := ?_) rfl (fun _ _ _ h => h) (by rfl) ?_ ?_
 rotate_left
 ·intro w'; go_simp; first | done | with_reducible rfl
 try simp only [Act.put, sp1]
 refine pO 5 rfl (fun K hK => ?_)
 go_simp
 refine (hr _).mono ?_
 rintro e w9 ⟨rfl, rfl⟩
 refine hK.out _ _ (fun _ _ => hS0) ?_
 clear hK K
 refine pT 10 (v := ?_) rfl (fun _ _ _ h => h) (by rfl) ?_ ?_
 rotate_left
 ·intro w'; go_simp; first | done | with_reducible rfl
 try simp only [Act.put, sp1]
 refine pT 12 (v := ?_) rfl (fun _ _ _ h => h) (by rfl) ?_ ?_
 rotate_left
 ·intro w'; go_simp; first | done | with_reducible rfl
 try simp only [Act.put, sp1]
 have c1 := (k0.ext (Ext.refl W4).drew).cell
 have c2 := (k0.ext (Ext.refl W4).drew).lt
 have c3 := (k0.ext (Ext.refl W4).drew).frozen
 refine pO 13 rfl (fun K hK => ?_)
 go_simp
 refine hK.out _ _ (fun h => absurd h (by decide)) ?_
 clear hK K
 refine wpAnyP_done (by kernel_rfl) ?_ _
 clear hr hS0
 obtain ⟨W5, hW, k1, g1⟩ : ∃ x, (W4.setCell ⟨B, 3, none⟩ (.int .u64 vd1.toNat)).drew = x /\ Blk x B 391 #[.int .u64 va2.toNat, .int .u64 vb1.toNat, .int .u64 vc1.toNat, .int .u64 vd1.toNat] /\ w.grownBy x (some B) :=
  ⟨_, rfl, (k0.set_ 3 _).ext (Ext.refl _).drew, grown_ext (grown_setCell g0 3 _) (Ext.refl _).drew⟩
 rw [hW]
 clear hW c1 c2 c3 k0 g0 qq
 have k0 := k1
 have g0 := g1
 clear k1 g1
 obtain ⟨va3, hq5⟩ : ∃ x, va2 + vd1 = x := ⟨_, rfl⟩
 have qq := u64_add va2 vd1
 rw [hq5] at qq
 have Hhq5 := Lib.hid hq5
 clear hq5
 have c1 := k0.cell
 have c2 := k0.lt
 have c3 := k0.frozen
 go_wp2_with fail
 go_region
 obtain ⟨W6, hW, k1, g1⟩ : ∃ x, (W5.setCell ⟨B, 0, none⟩ (.int .u64 va3.toNat)).drew = x /\ Blk x B 391 #[.int .u64 va3.toNat, .int .u64 vb1.toNat, .int .u64 vc1.toNat, .int .u64 vd1.toNat] /\ w.grownBy x (some B) :=
  ⟨_, rfl, (k0.set_ 0 _).ext (Ext.refl _).drew, grown_ext (grown_setCell g0 0 _) (Ext.refl _).drew⟩
 rw [hW]
 clear hW c1 c2 c3 k0 g0 qq
 have k0 := k1
 have g0 := g1
 clear k1 g1
 obtain ⟨vd2, hq6⟩ : ∃ x, rl vd1 21 ^^^ va3 = x := ⟨_, rfl⟩
 have qq := u64_xor (rl vd1 21) va3
 rw [hq6] at qq
 have hr := fun w => rot21_any vd1 w
 have Hhq6 := Lib.hid hq6
 clear hq6
 have c1 := k0.cell
 have c2 := k0.lt
 have c3 := k0.frozen
 go_wp2_with fail
 have hS0 : Ext W6 W6.drew /\ ∀ b o, b < W6.heap.size -> W6.drew.cell? ⟨b, o, none⟩ = W6.cell? ⟨b, o, none⟩ := ⟨(Ext.refl W6).drew, fun _ _ _ => rfl⟩
 refine wp_region_P (fun k => decide (13 <= k)) (fun w' => Ext W6 w' /\ ∀ b o, b < W6.heap.size -> w'.cell? ⟨b, o, none⟩ = W6.cell? ⟨b, o, none⟩) (by kernel_rfl) hS0 (fun _ => ?_)
 refine pK 0 (v := ?_) rfl (fun _ _ _ h => h) (by rfl) ?_ (by assumption) ?_
 rotate_left
 ·intro w' hw'
  (try have hC := hw'.2)
  (try have hC9 := hw'.1)
  go_simp
  first | done | with_reducible rfl
 try simp only [Act.put, sp1]
 refine pK 1 (v := ?_) rfl (fun _ _ _ h => h) (by rfl) ?_ (by assumption) ?_
 rotate_left
 ·intro w' hw'
  (try have hC := hw'.2)
  (try have hC9 := hw'.1)
  go_simp
  first | done | with_reducible rfl
 try simp only [Act.put, sp1]
 refine pK 2 (v := ?_) rfl (fun _ _ _ h => h) (by rfl) ?_ (by assumption) ?_
 rotate_left
 ·intro w' hw'
  (try have hC := hw'.2)
  (try have hC9 := hw'.1)
  go_simp
  first | done | with_reducible rfl
 try simp only [Act.put, sp1]
 refine pK 3 (v := ?_) rfl (fun _ _ _ h => h) (by rfl) ?_ (by assumption) ?_
 rotate_left
 ·intro w' hw'
  (try have hC := hw'.2)
  (try have hC9 := hw'.1)
  go_simp
  first | done | with_reducible rfl
 try simp only [Act.put, sp1]
 refine pK 4 (v := ?_) rfl (fun _ _ _ h => h) (by rfl) ?_ (by assumption) ?_
 rotate_left
 ·intro w' hw'
  (try have hC := hw'.2)
  (try have hC9 := hw'.1)
  go_simp
  first | done | with_reducible rfl
 try simp only [Act.put, sp1]
 refine pK 6 (v := ?_) rfl (fun _ _ _ h => h) (by rfl) ?_ (by assumption) ?_
 rotate_left
 ·intro w' hw'
  (try have hC := hw'.2)
  (try have hC9 := hw'.1)
  go_simp
  first | done | with_reducible rfl
 try simp only [Act.put, sp1]
 refine pK 7 (v := ?_) rfl (fun _ _ _ h => h) (by rfl) ?_ (by assumption) ?_
 rotate_left
 ·intro w' hw'
  (try have hC := hw'.2)
  (try have hC9 := hw'.1)
  go_simp
  first | done | with_reducible rfl
 try simp only [Act.put, sp1]
 refine pK 8 (v := ?_) rfl (fun _ _ _ h => h) (by rfl) ?_ (by assumption) ?_
 rotate_left
 ·intro w' hw'
  (try have hC := hw'.2)
  (try have hC9 := hw'.1)
  go_simp
  first | done | with_reducible rfl
 try simp only [Act.put, sp1]
 refine pK 9 (v := ?_) rfl (fun _ _ _ h => h) (by rfl) ?_ (by assumption) ?_
 rotate_left
 ·intro w' hw'
  (try have hC := hw'.2)
  (try have hC9 := hw'.1)
  go_simp
  first | done | with_reducible rfl
 try simp only [Act.put, sp1]
 refine pT 11 (v := ?_) rfl (fun _ _ _ h => h) (by rfl) ?_ ?_
 rotate_left
 ·intro w'; go_simp; first | done | with_reducible rfl
 try simp only [Act.put, sp1]
 refine pO 5 rfl (fun K hK => ?_)
 go_simp
 refine (hr _).mono ?_
 rintro e w9 ⟨rfl, rfl⟩
 refine hK.out _ _ (fun _ _ => hS0) ?_
 clear hK K
 refine pT 10 (v := ?_) rfl (fun _ _ _ h => h) (by rfl) ?_ ?_
 rotate_left
 ·intro w'; go_simp; first | done | with_reducible rfl
 try simp only [Act.put, sp1]
 refine pT 12 (v := ?_) rfl (fun _ _ _ h => h) (by rfl) ?_ ?_
 rotate_left
 ·intro w'; go_simp; first | done | with_reducible rfl
 try simp only [Act.put, sp1]
 have c1 := (k0.ext (Ext.refl W6).drew).cell
 have c2 := (k0.ext (Ext.refl W6).drew).lt
 have c3 := (k0.ext (Ext.refl W6).drew).frozen
 refine pO 13 rfl (fun K hK => ?_)
 go_simp
 refine hK.out _ _ (fun h => absurd h (by decide)) ?_
 clear hK K
 refine wpAnyP_done (by kernel_rfl) ?_ _
 clear hr hS0
 obtain ⟨W7, hW, k1, g1⟩ : ∃ x, (W6.setCell ⟨B, 3, none⟩ (.int .u64 vd2.toNat)).drew = x /\ Blk x B 391 #[.int .u64 va3.toNat, .int .u64 vb1.toNat, .int .u64 vc1.toNat, .int .u64 vd2.toNat] /\ w.grownBy x (some B) :=
  ⟨_, rfl, (k0.set_ 3 _).ext (Ext.refl _).drew, grown_ext (grown_setCell g0 3 _) (Ext.refl _).drew⟩
 rw [hW]
 clear hW c1 c2 c3 k0 g0 qq
 have k0 := k1
 have g0 := g1
 clear k1 g1
 obtain ⟨vc2, hq7⟩ : ∃ x, vc1 + vb1 = x := ⟨_, rfl⟩
 have qq := u64_add vc1 vb1
 rw [hq7] at qq
 have Hhq7 := Lib.hid hq7
 clear hq7
 have c1 := k0.cell
 have c2 := k0.lt
 have c3 := k0.frozen
 go_wp2_with fail
 go_region
 obtain ⟨W8, hW, k1, g1⟩ : ∃ x, (W7.setCell ⟨B, 2, none⟩ (.int .u64 vc2.toNat)).drew = x /\ Blk x B 391 #[.int .u64 va3.toNat, .int .u64 vb1.toNat, .int .u64 vc2.toNat, .int .u64 vd2.toNat] /\ w.grownBy x (some B) :=
  ⟨_, rfl, (k0.set_ 2 _).ext (Ext.refl _).drew, grown_ext (grown_setCell g0 2 _) (Ext.refl _).drew⟩
 rw [hW]
 clear hW c1 c2 c3 k0 g0 qq
 have k0 := k1
 have g0 := g1
 clear k1 g1
 obtain ⟨vb2, hq8⟩ : ∃ x, rl vb1 17 ^^^ vc2 = x := ⟨_, rfl⟩
 have qq := u64_xor (rl vb1 17) vc2
 rw [hq8] at qq
 have hr := fun w => rot17_any vb1 w
 have Hhq8 := Lib.hid hq8
 clear hq8
 have c1 := k0.cell
 have c2 := k0.lt
 have c3 := k0.frozen
 go_wp2_with fail
 have hS0 : Ext W8 W8.drew /\ ∀ b o, b < W8.heap.size -> W8.drew.cell? ⟨b, o, none⟩ = W8.cell? ⟨b, o, none⟩ := ⟨(Ext.refl W8).drew, fun _ _ _ => rfl⟩
 refine wp_region_P (fun k => decide (13 <= k)) (fun w' => Ext W8 w' /\ ∀ b o, b < W8.heap.size -> w'.cell? ⟨b, o, none⟩ = W8.cell? ⟨b, o, none⟩) (by kernel_rfl) hS0 (fun _ => ?_)
 refine pK 0 (v := ?_) rfl (fun _ _ _ h => h) (by rfl) ?_ (by assumption) ?_
 rotate_left
 ·intro w' hw'
  (try have hC := hw'.2)
  (try have hC9 := hw'.1)
  go_simp
  first | done | with_reducible rfl
 try simp only [Act.put, sp1]
 refine pK 1 (v := ?_) rfl (fun _ _ _ h => h) (by rfl) ?_ (by assumption) ?_
 rotate_left
 ·intro w' hw'
  (try have hC := hw'.2)
  (try have hC9 := hw'.1)
  go_simp
  first | done | with_reducible rfl
 try simp only [Act.put, sp1]
 refine pK 2 (v := ?_) rfl (fun _ _ _ h => h) (by rfl) ?_ (by assumption) ?_
 rotate_left
 ·intro w' hw'
  (try have hC := hw'.2)
  (try have hC9 := hw'.1)
  go_simp
  first | done | with_reducible rfl
 try simp only [Act.put, sp1]
 refine pK 3 (v := ?_) rfl (fun _ _ _ h => h) (by rfl) ?_ (by assumption) ?_
 rotate_left
 ·intro w' hw'
  (try have hC := hw'.2)
  (try have hC9 := hw'.1)
  go_simp
  first | done | with_reducible rfl
 try simp only [Act.put, sp1]
 refine pK 4 (v := ?_) rfl (fun _ _ _ h => h) (by rfl) ?_ (by assumption) ?_
 rotate_left
 ·intro w' hw'
  (try have hC := hw'.2)
  (try have hC9 := hw'.1)
  go_simp
  first | done | with_reducible rfl
 try simp only [Act.put, sp1]
 refine pK 6 (v := ?_) rfl (fun _ _ _ h => h) (by rfl) ?_ (by assumption) ?_
 rotate_left
 ·intro w' hw'
  (try have hC := hw'.2)
  (try have hC9 := hw'.1)
  go_simp
  first | done | with_reducible rfl
 try simp only [Act.put, sp1]
 refine pK 7 (v := ?_) rfl (fun _ _ _ h => h) (by rfl) ?_ (by assumption) ?_
 rotate_left
 ·intro w' hw'
  (try have hC := hw'.2)
  (try have hC9 := hw'.1)
  go_simp
  first | done | with_reducible rfl
 try simp only [Act.put, sp1]
 refine pK 8 (v := ?_) rfl (fun _ _ _ h => h) (by rfl) ?_ (by assumption) ?_
 rotate_left
 ·intro w' hw'
  (try have hC := hw'.2)
  (try have hC9 := hw'.1)
  go_simp
  first | done | with_reducible rfl
 try simp only [Act.put, sp1]
 refine pK 9 (v := ?_) rfl (fun _ _ _ h => h) (by rfl) ?_ (by assumption) ?_
 rotate_left
 ·intro w' hw'
  (try have hC := hw'.2)
  (try have hC9 := hw'.1)
  go_simp
  first | done | with_reducible rfl
 try simp only [Act.put, sp1]
 refine pT 11 (v := ?_) rfl (fun _ _ _ h => h) (by rfl) ?_ ?_
 rotate_left
 ·intro w'; go_simp; first | done | with_reducible rfl
 try simp only [Act.put, sp1]
 refine pO 5 rfl (fun K hK => ?_)
 go_simp
 refine (hr _).mono ?_
 rintro e w9 ⟨rfl, rfl⟩
 refine hK.out _ _ (fun _ _ => hS0) ?_
 clear hK K
 refine pT 10 (v := ?_) rfl (fun _ _ _ h => h) (by rfl) ?_ ?_
 rotate_left
 ·intro w'; go_simp; first | done | with_reducible rfl
 try simp only [Act.put, sp1]
 refine pT 12 (v := ?_) rfl (fun _ _ _ h => h) (by rfl) ?_ ?_
 rotate_left
 ·intro w'; go_simp; first | done | with_reducible rfl
 try simp only [Act.put, sp1]
 have c1 := (k0.ext (Ext.refl W8).drew).cell
 have c2 := (k0.ext (Ext.refl W8).drew).lt
 have c3 := (k0.ext (Ext.refl W8).drew).frozen
 refine pO 13 rfl (fun K hK => ?_)
 go_simp
 refine hK.out _ _ (fun h => absurd h (by decide)) ?_
 clear hK K
 refine wpAnyP_done (by kernel_rfl) ?_ _
 clear hr hS0
 obtain ⟨W9, hW, k1, g1⟩ : ∃ x, (W8.setCell ⟨B, 1, none⟩ (.int .u64 vb2.toNat)).drew = x /\ Blk x B 391 #[.int .u64 va3.toNat, .int .u64 vb2.toNat, .int .u64 vc2.toNat, .int .u64 vd2.toNat] /\ w.grownBy x (some B) :=
  ⟨_, rfl, (k0.set_ 1 _).ext (Ext.refl _).drew, grown_ext (grown_setCell g0 1 _) (Ext.refl _).drew⟩
 rw [hW]
 clear hW c1 c2 c3 k0 g0 qq
 have k0 := k1
 have g0 := g1
 clear k1 g1
 obtain ⟨vc3, hq9⟩ : ∃ x, rl vc2 32 = x := ⟨_, rfl⟩
 have hr := fun w => rot32_any vc2 w
 rw [hq9] at hr
 have Hhq9 := Lib.hid hq9
 clear hq9
 have c1 := k0.cell
 have c2 := k0.lt
 have c3 := k0.frozen
 go_wp2_with fail
 have hS0 : Ext W9 W9.drew /\ ∀ b o, b < W9.heap.size -> W9.drew.cell? ⟨b, o, none⟩ = W9.cell? ⟨b, o, none⟩ := ⟨(Ext.refl W9).drew, fun _ _ _ => rfl⟩
 refine wp_region_P (fun k => decide (8 <= k)) (fun w' => Ext W9 w' /\ ∀ b o, b < W9.heap.size -> w'.cell? ⟨b, o, none⟩ = W9.cell? ⟨b, o, none⟩) (by kernel_rfl) hS0 (fun _ => ?_)
 refine pK 0 (v := ?_) rfl (fun _ _ _ h => h) (by rfl) ?_ (by assumption) ?_
 rotate_left
 ·intro w' hw'
  (try have hC := hw'.2)
  (try have hC9 := hw'.1)
  go_simp
  first | done | with_reducible rfl
 try simp only [Act.put, sp1]
 refine pK 1 (v := ?_) rfl (fun _ _ _ h => h) (by rfl) ?_ (by assumption) ?_
 rotate_left
 ·intro w' hw'
  (try have hC := hw'.2)
  (try have hC9 := hw'.1)
  go_simp
  first | done | with_reducible rfl
 try simp only [Act.put, sp1]
 refine pK 2 (v := ?_) rfl (fun _ _ _ h => h) (by rfl) ?_ (by assumption) ?_
 rotate_left
 ·intro w' hw'
  (try have hC := hw'.2)
  (try have hC9 := hw'.1)
  go_simp
  first | done | with_reducible rfl
 try simp only [Act.put, sp1]
 refine pK 3 (v := ?_) rfl (fun _ _ _ h => h) (by rfl) ?_ (by assumption) ?_
 rotate_left
 ·intro w' hw'
  (try have hC := hw'.2)
  (try have hC9 := hw'.1)
  go_simp
  first | done | with_reducible rfl
 try simp only [Act.put, sp1]
 refine pK 4 (v := ?_) rfl (fun _ _ _ h => h) (by rfl) ?_ (by assumption) ?_
 rotate_left
 ·intro w' hw'
  (try have hC := hw'.2)
  (try have hC9 := hw'.1)
  go_simp
  first | done | with_reducible rfl
 try simp only [Act.put, sp1]
 refine pT 6 (v := ?_) rfl (fun _ _ _ h => h) (by rfl) ?_ ?_
 rotate_left
 ·intro w'; go_simp; first | done | with_reducible rfl
 try simp only [Act.put, sp1]
 refine pO 5 rfl (fun K hK => ?_)
 go_simp
 refine (hr _).mono ?_
 rintro e w9 ⟨rfl, rfl⟩
 refine hK.out _ _ (fun _ _ => hS0) ?_
 clear hK K
 refine pT 7 (v := ?_) rfl (fun _ _ _ h => h) (by rfl) ?_ ?_
 rotate_left
 ·intro w'; go_simp; first | done | with_reducible rfl
 try simp only [Act.put, sp1]
 have c1 := (k0.ext (Ext.refl W9).drew).cell
 have c2 := (k0.ext (Ext.refl W9).drew).lt
 have c3 := (k0.ext (Ext.refl W9).drew).frozen
 refine pO 8 rfl (fun K hK => ?_)
 go_simp
 refine hK.out _ _ (fun h => absurd h (by decide)) ?_
 clear hK K
 refine wpAnyP_done (by kernel_rfl) ?_ _
 clear hr hS0
 obtain ⟨W10, hW, k1, g1⟩ : ∃ x, (W9.setCell ⟨B, 2, none⟩ (.int .u64 vc3.toNat)).drew = x /\ Blk x B 391 #[.int .u64 va3.toNat, .int .u64 vb2.toNat, .int .u64 vc3.toNat, .int .u64 vd2.toNat] /\ w.grownBy x (some B) :=
  ⟨_, rfl, (k0.set_ 2 _).ext (Ext.refl _).drew, grown_ext (grown_setCell g0 2 _) (Ext.refl _).drew⟩
 rw [hW]
 clear hW c1 c2 c3 k0 g0
 have k0 := k1
 have g0 := g1
 clear k1 g1
 go_end0
 refine ⟨⟨_, rfl⟩, ?_, g0⟩
 have e : (Q4.rnd ⟨a, b, c, d⟩).cells = #[.int .u64 va3.toNat, .int .u64 vb2.toNat, .int .u64 vc3.toNat, .int .u64 vd2.toNat] := by
  unfold Q4.rnd Q4.cells
  dsimp only
  rw [Hhq0.out, Hhq1.out, Hhq2.out, Hhq3.out, Hhq4.out, Hhq5.out, Hhq6.out, Hhq7.out, Hhq8.out, Hhq9.out]
 rw [e]
 exact k0
end
section
open Go.RowKit
attribute [local go_sem] Oper.semAt_some
theorem Rd.by {w : World} {A : Option Addr} {l : Bts} (h : Rd EB w A l) {k : Nat} (hk : k < l.length) : ∃ b o, A = some ⟨b, o, none⟩ /\ b < w.heap.size /\ w.cell? ⟨b, o + k, none⟩ = some (.int .u8 (l[k].toNat : Int)) := by
 obtain ⟨b, o, rfl, hb, hc⟩ := h.at hk
 refine ⟨b, o, rfl, hb, ?_⟩
 have h0 := hc 0 _ rfl
 have e9 : EB.size = 1 := rfl
 rw [e9, Nat.mul_one, Nat.add_zero] at h0
 exact h0
theorem u8_shl64 (b : UInt8) (k : Nat) (hk : k < 8) : IntKind.u64.wrap ((b.toNat : Int) * 2 ^ (8 * k)) = ((b.toUInt64 <<< UInt64.ofNat (8 * k)).toNat : Int) := by
 have h := u64_shl b.toUInt64 (8 * k) (by omega)
 rw [IntKind.wrap_u64, <- h, Int.shiftLeft_eq]
 rfl
set_option maxRecDepth 100000 in
set_option maxHeartbeats 4000000 in
theorem word_any (A : Option Addr) (c : Nat) (l : Bts) (w : World) (hR : Rd EB w A l) (hl : 8 <= l.length) :
 Calls Tryz.prog 269 #[.slice A l.length c] w fun e w' => e = .returned (.int .u64 (wrd l).toNat) /\ w = w' := by
 go_enter Tryz.func269, Tryz.ntmps269
 go_wp2_with fail
 go_loopg [3, 5] 8 (fun n m v wr => ∃ k : Nat, k + n = 8 /\ v = .int .i64 k /\ m = .int .u64 (wrdK l k).toNat /\ wr = w)
 case atStart => exact ⟨0, rfl, by go_num, rfl, rfl⟩
 case round =>
  obtain ⟨k, hkn, rfl, rfl, rfl⟩ := hrel
  have Hkn := Lib.hid hkn
  have hk8 : k <= 8 := by omega
  clear hkn
  by_cases hlt : k < 8
  ·have hkl : k < l.length := by omega
   obtain ⟨b, o, rfl, hb, hc⟩ := hR.by hkl
   have hgd : l.getD k 0 = l[k] := by simp [List.getD, hkl]
   have hsu : wrdK l (k + 1) = wrdK l k ||| ((l.getD k 0).toUInt64 <<< (UInt64.ofNat (8 * k))) := rfl
   rw [hgd] at hsu
   generalize l[k] = x at *
   obtain ⟨sh, hsh⟩ : ∃ s, x.toUInt64 <<< UInt64.ofNat (8 * k) = s := ⟨_, rfl⟩
   have q1 := u8_shl64 x k hlt
   rw [hsh] at q1 hsu
   obtain ⟨m, hm⟩ : ∃ m, wrdK l k = m := ⟨_, rfl⟩
   rw [hm] at hsu ⊢
   obtain ⟨m', hm'⟩ : ∃ m', m ||| sh = m' := ⟨_, rfl⟩
   have q2 := u64_or m sh
   rw [hm'] at q2 hsu
   have Hsu := Lib.hid hsu
   clear hsh hm hm'
   have Hgd := Lib.hid hgd
   have hx0 : (0 : Int) <= (x.toNat : Int) := by omega
   have hx1 : (x.toNat : Int) < 256 := by have := x.toNat_lt; omega
   clear hsu hgd
   go_wp2_with fail
   go_roundg (gk - 1)
   case measure => have := Hkn.out; omega
   case rel => exact ⟨k + 1, by have := Hkn.out; omega, by go_num, by rw [Hsu.out], rfl⟩
  ·obtain rfl : k = 8 := by omega
   go_wp2
   go_ret
   exact ⟨rfl, rfl⟩
def wbyK (m : UInt64) (k : Nat) : Bts := (List.range k).map fun i => (m >>> (UInt64.ofNat (8 * i))).toUInt8
theorem wbyK_succ (m : UInt64) (k : Nat) : wbyK m (k + 1) = wbyK m k ++ [(m >>> (UInt64.ofNat (8 * k))).toUInt8] := by simp [wbyK, List.range_succ]
theorem wbyK_len (m : UInt64) (k : Nat) : (wbyK m k).length = k := by simp [wbyK]
theorem u64_shrB (m : UInt64) (k : Nat) (hk : k < 8) : IntKind.u8.wrap ((m.toNat : Int) / 2 ^ (8 * k)) = (((m >>> UInt64.ofNat (8 * k)).toUInt8).toNat : Int) := by
 rw [u64_shr m (8 * k) (by omega), IntKind.wrap_u8']
 rfl
theorem info_byte : (Tryz.prog.info? 5).map (fun i => (i.zero, i.size, i.bytes)) = some (some (.int .u8 0), 1, 1) := by kernel_rfl
set_option maxRecDepth 100000 in
set_option maxHeartbeats 8000000 in
theorem appendWord_any (u : Value) (l : Bts) (m : UInt64) (base : Nat) (w : World) (hu : Owns EB w base 5 u l) (hl : l.length <= 1000000) (hb : base <= w.heap.size) :
 Calls Tryz.prog 208 #[u, .int .u64 m.toNat] w fun e w' => ∃ u', e = .returned u' /\ Owns EB w' base 5 u' (l ++ wby m) /\ w.grownBy w' u.ownBlock := by
 obtain ⟨i0, hi0, hz0, hz1, hz2⟩ := info_parts info_byte
 obtain ⟨A, c, rfl, hR⟩ := hu.form
 have hg0 := World.grownBy.refl w (Value.slice A l.length c).ownBlock
 obtain ⟨row, hrow⟩ : ∃ row, (Value.slice A l.length c).ownBlock = row := ⟨_, rfl⟩
 rw [hrow] at hg0 ⊢
 have Hrow := Lib.hid hrow
 clear hrow
 go_enter Tryz.func208, Tryz.ntmps208
 go_wp2_with fail
 go_loopg [0, 6] 8 (fun n u' v wr => ∃ k : Nat, k + n = 8 /\ v = .int .i64 k /\ Owns EB wr base 5 u' (l ++ wbyK m k) /\ w.grownBy wr row /\ ∀ g, u'.ownBlock = some g -> row = some g ∨ w.heap.size <= g)
 case atStart => exact ⟨0, rfl, by go_num, by simpa [wbyK] using hu, hg0, fun g hg => .inl (by rw [<- Hrow.out]; exact hg)⟩
 case round =>
  obtain ⟨k, hkn, rfl, ho, hg, hro⟩ := hrel
  have Hkn := Lib.hid hkn
  have hk8 : k <= 8 := by omega
  clear hkn
  by_cases hlt : k < 8
  ·obtain ⟨y, hy⟩ : ∃ y, (m >>> UInt64.ofNat (8 * k)).toUInt8 = y := ⟨_, rfl⟩
   have q1 := u64_shrB m k hlt
   rw [hy] at q1
   have hsu := wbyK_succ m k
   rw [hy] at hsu
   obtain ⟨bs, hbs⟩ : ∃ bs, wbyK m k = bs := ⟨_, rfl⟩
   have hbl := wbyK_len m k
   rw [hbs] at hsu ho hbl
   have Hsu := Lib.hid hsu
   have Hro := Lib.hid hro
   clear hsu hbs hy hro
   obtain ⟨A1, c1, rfl, hR1⟩ := ho.form
   have hgs := hg.size
   have hln : (l ++ bs).length = l.length + k := by rw [List.length_append, hbl]
   have Hln := Lib.hid hln
   clear hln
   go_wp2_with (at_builtin; refine wpList_push rfl (.tmp 9) (.tmp 15) _ (by rfl) base 5 i0 _ 1 Tryz.underlying22 hi0 hz0 hz1 hz2 (by rfl) (.slice A1 (l ++ bs).length c1) (by rfl) (ho.ext ((Ext.refl _).alloc _)) wr.heap.size y (by rfl) (Blk.new wr _ _) (by rw [Hln.out]; simp only [maxLen]; omega) (by rw [Hln.out]; omega) (by simp; omega) ?_; intro v6 w6 hv6 hg6 hat6)
   go_roundg (gk - 1)
   case measure => have := Hkn.out; omega
   case rel =>
    refine ⟨k + 1, by have := Hkn.out; omega, by go_num, by rw [Hsu.out, <- List.append_assoc]; exact hv6, ?_, ?_⟩
    ·have h1 : w.grownBy (wr.alloc (.cells (EB.cells y).toArray 5)) row := grown_ext hg ((Ext.refl _).alloc _)
     refine ⟨hg6.os.trans h1.os, hg6.tape.trans h1.tape, hg6.output.trans h1.output, Nat.le_trans h1.size hg6.size, fun i hi hne => ?_⟩
     refine (hg6.block i (Nat.lt_of_lt_of_le hi h1.size) (fun e => ?_)).trans (h1.block i hi hne)
     rcases Hro.out i e.symm with h | h
     ·exact hne h.symm
     ·omega
    ·intro g hgg
     rcases hat6 with h | h
     ·exact Hro.out g (by rw [<- h]; exact hgg)
     ·rw [h] at hgg
      injection hgg with hgg
      right
      simp at hgg
      omega
  ·obtain rfl : k = 8 := by omega
   obtain ⟨A1, c1, rfl, hR1⟩ := ho.form
   go_wp2
   go_ret
   exact ⟨_, rfl, ho, hg⟩
end
end Go.Proofs.YtemkpimngbbpkaaGreat
