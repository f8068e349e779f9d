/- Layer 44 (custody): the walk of the reference's Check. -/
import Derived.Test.YtlhdmhgbclfneaaCusW6
namespace Go.Proofs.Ytlhdmhgbclfneaa
set_option linter.unusedVariables false
open Go.RowKit

set_option maxHeartbeats 2000000 in
theorem rcheck_any (A : Option Addr) (c : Nat) (l : List Off) (w : World) (hA : Rd EOff w A l) (hmax : l.length ≤ 1000000) :
    Calls Try.prog 14 #[.slice A l.length c] w fun e w' => e = .returned (.int .i64 (chk l)) ∧ Ext w w' := by
  by_cases h64 : 64 < l.length
  · go_enter Try.func14, Try.ntmps14
    go_wp2
    go_ret
    exact ⟨ret_i64 (by unfold chk; rw [if_pos h64]), Ext.refl _⟩
  · go_enter Try.func14, Try.ntmps14
    go_wp2
    go_loopw [3] (fun i wr => ∃ k : Nat, k ≤ l.length ∧ i = .int .i64 k ∧ Hid (chk l = chkL (prev l k) (l.drop k)) ∧ Near w wr) (fun i _ => l.length - (intOf i).toNat)
    case atStart => exact ⟨0, Nat.zero_le _, rfl, Lib.hid (by unfold chk; rw [if_neg h64]; rfl), Near.refl _⟩
    case round =>
      obtain ⟨k, hk, rfl, hx, hN⟩ := hrel
      by_cases hlt : k < l.length
      · obtain ⟨b, o, rfl, hb, c0, c1, c2, c3, c4, c5, c6, c7⟩ := (hA.ext hN.1).off hlt
        have hst := Lib.hid (chkL_step hlt)
        generalize hxe : l[k] = x at *
        have Hx := Lib.hid hxe
        clear hxe
        cases hok : x.ok
        · have hNW := hN
          clear hN
          have hN := Near.refl wr
          go_wp2_with (go_at_call 34; refine (rvalid_any _ _).mono ?_; rintro e w1 ⟨rfl, hb1⟩; replace hN := hN.step hb1; have hC := hN.2)
          go_ret
          exact ⟨ret_i64 (by rw [hx.out, hst.out, if_pos hok]), (hNW.1).trans hN.1⟩
        · by_cases h0 : 0 < k
          · obtain ⟨b', o', e', hb', p0, p1, p2, p3, p4, p5, p6, p7⟩ := (hA.ext hN.1).off (show k - 1 < l.length by omega)
            injection e' with e'
            injection e' with e1 e2 _
            subst e1 e2
            have hst2 := Lib.hid (show chkL (prev l k) (l.drop k) = if (l[k - 1]'(by omega)).lt x then chkL (prev l (k + 1)) (l.drop (k + 1)) else 9 by rw [hst.out, if_neg (by simp [hok]), dif_pos h0])
            clear hst
            generalize l[k - 1]'(by omega) = q at *
            have hk1 : ((k : Int) - 1).toNat = k - 1 := by omega
            cases hq9 : q.lt x
            · have hNW := hN
              clear hN
              have hN := Near.refl wr
              go_wp2_with (go_at_call 34; refine (rvalid_any _ _).mono ?_; rintro e w1 ⟨rfl, hb1⟩; replace hN := hN.step hb1; have hC := hN.2)
              have hq := quiet_near hN
              refine wp_region_quiet_below (by kernel_rfl) (by kernel_rfl) ?_
              repeat (first | go_big_quiet_skip | (go_big_quiet_want; go_big_quiet_op; first | go_big_quiet_on | (apply Exists.intro; refine ⟨fun _ => ?_, ?_⟩; (focus (first | (go_at_call 35; exact Calls.regrown_of (rless_any _ _ _)))); go_big_quiet_on)))
              refine wpQuiet_nil ?_
              intro w1 hw1
              clear hq
              replace hw1 := quiet_ext hw1
              replace hN := hN.step hw1
              have hC := hN.2
              go_wp2
              go_ret
              exact ⟨ret_i64 (by rw [hx.out, hst2.out, hq9]; rfl), (hNW.1).trans hN.1⟩
            · have hNW := hN
              clear hN
              have hN := Near.refl wr
              go_wp2_with (go_at_call 34; refine (rvalid_any _ _).mono ?_; rintro e w1 ⟨rfl, hb1⟩; replace hN := hN.step hb1; have hC := hN.2)
              have hq := quiet_near hN
              refine wp_region_quiet_below (by kernel_rfl) (by kernel_rfl) ?_
              repeat (first | go_big_quiet_skip | (go_big_quiet_want; go_big_quiet_op; first | go_big_quiet_on | (apply Exists.intro; refine ⟨fun _ => ?_, ?_⟩; (focus (first | (go_at_call 35; exact Calls.regrown_of (rless_any _ _ _)))); go_big_quiet_on)))
              refine wpQuiet_nil ?_
              intro w1 hw1
              clear hq
              replace hw1 := quiet_ext hw1
              replace hN := hN.step hw1
              have hC := hN.2
              go_wp2
              go_roundw
              case rel => exact ⟨k + 1, by omega, by go_num, Lib.hid (by rw [hx.out, hst2.out, hq9]; rfl), .of (hNW.1.trans hN.1)⟩
              case measure => simp [intOf]; omega
          · have hk0 : k = 0 := by omega
            have hst2 := Lib.hid (show chkL (prev l k) (l.drop k) = chkL (prev l (k + 1)) (l.drop (k + 1)) by rw [hst.out, if_neg (by simp [hok]), dif_neg h0])
            clear hst hk0
            have hd : decide (0 < (k : Int)) = false := by simp; omega
            have hNW := hN
            clear hN
            have hN := Near.refl wr
            go_wp2_with (go_at_call 34; refine (rvalid_any _ _).mono ?_; rintro e w1 ⟨rfl, hb1⟩; replace hN := hN.step hb1; have hC := hN.2)
            have hq := quiet_near hN
            refine wp_region_quiet_below (by kernel_rfl) (by kernel_rfl) ?_
            repeat (first | go_big_quiet_skip | (go_big_quiet_want; go_big_quiet_op; first | go_big_quiet_on | (apply Exists.intro; refine ⟨fun _ => ?_, ?_⟩; (focus (first | fail)); go_big_quiet_on)))
            refine wpQuiet_nil ?_
            intro w1 hw1
            clear hq
            replace hw1 := quiet_ext hw1
            replace hN := hN.step hw1
            have hC := hN.2
            go_wp2
            go_roundw
            case rel => exact ⟨k + 1, by omega, by go_num, Lib.hid (by rw [hx.out, hst2.out]), .of (hNW.1.trans hN.1)⟩
            case measure => simp [intOf]; omega
      · go_wp2
        go_ret
        refine ⟨ret_i64 ?_, hN.1⟩
        rw [hx.out, List.drop_eq_nil_of_le (by omega)]
        cases k <;> rfl

end Go.Proofs.Ytlhdmhgbclfneaa
