/- Layer 44 (custody): the walks of the reference's orders. -/
import Derived.Test.YtlhdmhgbclfneaaCusW3
namespace Go.Proofs.Ytlhdmhgbclfneaa
set_option linter.unusedVariables false
open Go.RowKit

theorem blk_get {w : World} {g : Nat} {t : TypeId} {l : List Int} (h : Blk w g t (l.map (Value.int .i64)).toArray) {k : Nat} (hk : k < l.length) : w.cell? ⟨g, k, none⟩ = some (.int .i64 l[k]) := by
  rw [h.cell]
  simp [hk]
/-- The first place at which two lists differ has not come yet. -/
def SameTo (l m : List Int) (k : Nat) : Prop := lexC l m = lexC (l.drop k) (m.drop k)

set_option maxHeartbeats 2000000 in
theorem rLess_any (x y : Bid) (w : World) :
    Calls Try.prog 45 #[x.val, y.val] w fun e w' => e = .returned (.bool (x.lt y)) ∧ Ext w w' := by
  unfold Bid.val
  go_enter Try.func45, Try.ntmps45
  go_wp2_with fail
  obtain ⟨W, hW, hB, k1, k2⟩ : ∃ W, (((w.alloc (.cells #[.int .i64 x.a, .int .i64 x.b, .int .i64 x.c, .int .i64 x.d, .int .i64 x.e] 24)).alloc (.cells #[.int .i64 y.a, .int .i64 y.b, .int .i64 y.c, .int .i64 y.d, .int .i64 y.e] 24)).alloc (.cells #[.int .i64 x.a, .int .i64 x.b, .int .i64 x.c, .int .i64 x.d, .int .i64 x.e] 3)).alloc (.cells #[.int .i64 y.a, .int .i64 y.b, .int .i64 y.c, .int .i64 y.d, .int .i64 y.e] 3) = W ∧ Ext w W ∧
      Blk W (w.heap.size + 1 + 1) 3 (x.ints.map (Value.int .i64)).toArray ∧ Blk W (w.heap.size + 1 + 1 + 1) 3 (y.ints.map (Value.int .i64)).toArray := by
    refine ⟨_, rfl, ((((Ext.refl w).alloc _).alloc _).alloc _).alloc _, ?_, ?_⟩
    · have := (Blk.new ((w.alloc (.cells #[.int .i64 x.a, .int .i64 x.b, .int .i64 x.c, .int .i64 x.d, .int .i64 x.e] 24)).alloc (.cells #[.int .i64 y.a, .int .i64 y.b, .int .i64 y.c, .int .i64 y.d, .int .i64 y.e] 24)) 3 #[.int .i64 x.a, .int .i64 x.b, .int .i64 x.c, .int .i64 x.d, .int .i64 x.e]).ext ((Ext.refl _).alloc (.cells #[.int .i64 y.a, .int .i64 y.b, .int .i64 y.c, .int .i64 y.d, .int .i64 y.e] 3))
      simp only [World.size_alloc] at this; exact this
    · have := Blk.new (((w.alloc (.cells #[.int .i64 x.a, .int .i64 x.b, .int .i64 x.c, .int .i64 x.d, .int .i64 x.e] 24)).alloc (.cells #[.int .i64 y.a, .int .i64 y.b, .int .i64 y.c, .int .i64 y.d, .int .i64 y.e] 24)).alloc (.cells #[.int .i64 x.a, .int .i64 x.b, .int .i64 x.c, .int .i64 x.d, .int .i64 x.e] 3)) 3 #[.int .i64 y.a, .int .i64 y.b, .int .i64 y.c, .int .i64 y.d, .int .i64 y.e]
      simp only [World.size_alloc] at this; exact this
  rw [hW]
  clear hW
  have hl1 := k1.lt
  have hl2 := k2.lt
  have hN := Near.refl W
  generalize w.heap.size + 1 + 1 = g at *
  go_loopw [7] (fun i wr => ∃ k : Nat, k ≤ 5 ∧ i = .int .i64 k ∧ SameTo x.ints y.ints k ∧ Near W wr) (fun i _ => 5 - (intOf i).toNat)
  case atStart => exact ⟨0, by omega, rfl, rfl, hN⟩
  case round =>
    obtain ⟨k, hk, rfl, hx, hN⟩ := hrel
    by_cases hlt : k < 5
    · have c1 := blk_get k1 (show k < x.ints.length from hlt)
      have c2 := blk_get k2 (show k < y.ints.length from hlt)
      have hst := Lib.hid (lexC_step (l := x.ints) (m := y.ints) (k := k) hlt hlt)
      have hC := hN.2
      generalize x.ints[k] = u at *
      generalize y.ints[k] = v at *
      by_cases hz : u = v
      · subst hz
        go_wp2
        have hq := quiet_near hN
        refine wp_region_quiet_below (by kernel_rfl) (by kernel_rfl) ?_
        repeat (first | go_big_quiet_skip | (go_big_quiet_want; go_big_quiet_op; first | go_big_quiet_on | (apply Exists.intro; refine ⟨fun _ => ?_, ?_⟩; (focus (first | fail)); go_big_quiet_on)))
        refine wpQuiet_nil ?_
        intro w1 hw1
        clear hq
        replace hw1 := quiet_ext hw1
        replace hN := hN.step hw1
        have hC := hN.2
        go_wp2
        go_roundw
        case rel => exact ⟨k + 1, by omega, by go_num, by unfold SameTo at *; rw [hx, hst.out, if_pos (cmpI_zero.2 rfl)], hN⟩
        case measure => simp [intOf]; omega
      · have hz2 : (u != v) = true := by simpa using hz
        go_wp2
        have hq := quiet_near hN
        refine wp_region_quiet_below (by kernel_rfl) (by kernel_rfl) ?_
        repeat (first | go_big_quiet_skip | (go_big_quiet_want; go_big_quiet_op; first | go_big_quiet_on | (apply Exists.intro; refine ⟨fun _ => ?_, ?_⟩; (focus (first | fail)); go_big_quiet_on)))
        refine wpQuiet_nil ?_
        intro w1 hw1
        clear hq
        replace hw1 := quiet_ext hw1
        replace hN := hN.step hw1
        have hC := hN.2
        go_wp2
        have hq := quiet_near hN
        refine wp_region_quiet_below (by kernel_rfl) (by kernel_rfl) ?_
        repeat (first | go_big_quiet_skip | (go_big_quiet_want; go_big_quiet_op; first | go_big_quiet_on | (apply Exists.intro; refine ⟨fun _ => ?_, ?_⟩; (focus (first | fail)); go_big_quiet_on)))
        refine wpQuiet_nil ?_
        intro w1 hw1
        clear hq
        replace hw1 := quiet_ext hw1
        replace hN := hN.step hw1
        have hC := hN.2
        go_wp2
        go_ret
        refine ⟨ret_bool ?_, hB.trans hN.1⟩
        unfold SameTo at hx
        unfold Bid.lt
        rw [hx, hst.out, if_neg (fun h => hz (cmpI_zero.1 h)), Bool.eq_iff_iff]
        simp only [decide_eq_true_eq]
        unfold cmpI
        split <;> (try split) <;> omega
    · go_wp2
      go_ret
      refine ⟨ret_bool ?_, hB.trans hN.1⟩
      unfold SameTo at hx
      have e : k = 5 := by omega
      subst e
      unfold Bid.lt
      rw [hx]
      rfl

end Go.Proofs.Ytlhdmhgbclfneaa
