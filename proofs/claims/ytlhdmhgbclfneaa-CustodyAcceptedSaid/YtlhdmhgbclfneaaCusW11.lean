/- Layer 44 (custody): lists compared. -/
import Derived.Test.YtlhdmhgbclfneaaCusW10
namespace Go.Proofs.Ytlhdmhgbclfneaa
set_option linter.unusedVariables false
open Go.RowKit

def eqL : List Off → List Off → Bool
  | [], [] => true
  | x :: l, y :: m => offEq x y && eqL l m
  | _, _ => false
theorem eqL_step {l m : List Off} {k : Nat} (h1 : k < l.length) (h2 : k < m.length) : eqL (l.drop k) (m.drop k) = (offEq l[k] m[k] && eqL (l.drop (k + 1)) (m.drop (k + 1))) := by
  rw [List.drop_eq_getElem_cons h1, List.drop_eq_getElem_cons h2]
  rfl
theorem eqL_len : ∀ {l m : List Off}, l.length ≠ m.length → eqL l m = false
  | [], [], h => absurd rfl h
  | [], _ :: _, _ => rfl
  | _ :: _, [], _ => rfl
  | x :: l, y :: m, h => by
    have := eqL_len (l := l) (m := m) (by simpa using h)
    simp [eqL, this]
theorem offEq_refl (x : Off) : offEq x x = true := by simp [offEq, idEq]
theorem eqL_refl : ∀ l : List Off, eqL l l = true
  | [] => rfl
  | x :: l => by simp [eqL, offEq_refl, eqL_refl l]

set_option maxHeartbeats 2000000 in
theorem same_any (A B : Option Addr) (c d : Nat) (l m : List Off) (w : World) (hA : Rd EOff w A l) (hB : Rd EOff w B m) (hmax : l.length ≤ 1000000) (hmax2 : m.length ≤ 1000000) :
    Calls Try.prog 15 #[.slice A l.length c, .slice B m.length d] w fun e w' => e = .returned (.bool (eqL l m)) ∧ Ext w w' := by
  by_cases hlm : l.length = m.length
  · have h1 : l.length ≤ m.length := by omega
    have h2 : m.length ≤ l.length := by omega
    have hnn : ((l.length : Int) != (m.length : Int)) = false := by simp; omega
    have hnn2 : (l.length != m.length) = false := by simp; omega
    clear hlm
    go_enter Try.func15, Try.ntmps15
    go_wp2
    go_loopw [5] (fun i wr => ∃ k : Nat, k ≤ l.length ∧ i = .int .i64 k ∧ Hid (eqL l m = eqL (l.drop k) (m.drop k)) ∧ Near w wr) (fun i _ => l.length - (intOf i).toNat)
    case atStart => exact ⟨0, Nat.zero_le _, rfl, Lib.hid rfl, Near.refl _⟩
    case round =>
      obtain ⟨k, hk, rfl, hx, hN⟩ := hrel
      by_cases hlt : k < l.length
      · have hlt2 : k < m.length := by omega
        obtain ⟨b, o, rfl, hb, c0, c1, c2, c3, c4, c5, c6, c7⟩ := (hA.ext hN.1).off hlt
        obtain ⟨b2, o2, rfl, hb2, d0, d1, d2, d3, d4, d5, d6, d7⟩ := (hB.ext hN.1).off hlt2
        have hst := Lib.hid (eqL_step hlt hlt2)
        have he := run_neq_off l[k] m[k]
        generalize l[k] = x at *
        generalize m[k] = y at *
        have hN0 := hN
        clear hN
        have hN := Near.refl wr
        cases hxy : offEq x y
        · go_wp2
          have hq := quiet_near hN
          refine wp_region_quiet_below (by kernel_rfl) (by kernel_rfl) ?_
          repeat (first | go_big_quiet_skip | (go_big_quiet_want; go_big_quiet_op; first | go_big_quiet_on | (apply Exists.intro; refine ⟨fun _ => ?_, ?_⟩; (focus (first | fail)); go_big_quiet_on)))
          refine wpQuiet_nil ?_
          intro w1 hw1
          clear hq
          replace hw1 := quiet_ext hw1
          replace hN := hN.step hw1
          have hC := hN.2
          go_wp2
          go_ret
          exact ⟨ret_bool (by rw [hx.out, hst.out, hxy]; rfl), hN0.1.trans hN.1⟩
        · go_wp2
          have hq := quiet_near hN
          refine wp_region_quiet_below (by kernel_rfl) (by kernel_rfl) ?_
          repeat (first | go_big_quiet_skip | (go_big_quiet_want; go_big_quiet_op; first | go_big_quiet_on | (apply Exists.intro; refine ⟨fun _ => ?_, ?_⟩; (focus (first | fail)); go_big_quiet_on)))
          refine wpQuiet_nil ?_
          intro w1 hw1
          clear hq
          replace hw1 := quiet_ext hw1
          replace hN := hN.step hw1
          have hC := hN.2
          go_wp2
          go_roundw
          case rel => exact ⟨k + 1, by omega, by go_num, Lib.hid (by rw [hx.out, hst.out, hxy]; rfl), .of (hN0.1.trans hN.1)⟩
          case measure => simp [intOf]; omega
      · go_wp2
        go_ret
        refine ⟨ret_bool ?_, hN.1⟩
        rw [hx.out, List.drop_eq_nil_of_le (by omega), List.drop_eq_nil_of_le (by omega)]
        rfl
  · have hnn : ((l.length : Int) != (m.length : Int)) = true := by simp; omega
    have hnn2 : (l.length != m.length) = true := by simp; omega
    have he := Lib.hid (eqL_len hlm)
    clear hlm
    go_enter Try.func15, Try.ntmps15
    go_wp2
    go_ret
    exact ⟨ret_bool he.out.symm, Ext.refl _⟩

set_option maxHeartbeats 2000000 in
theorem equal_any (A B : Option Addr) (c d : Nat) (l m : List Off) (w : World) (hA : Rd EOff w A l) (hB : Rd EOff w B m) (hmax : l.length ≤ 1000000) (hmax2 : m.length ≤ 1000000) :
    Calls Try.prog 25 #[.slice A l.length c, .slice B m.length d] w fun e w' => e = .returned (.bool (eqL l m)) ∧ Ext w w' := by
  by_cases hlm : l.length = m.length
  · have h1 : l.length ≤ m.length := by omega
    have h2 : m.length ≤ l.length := by omega
    have hnn : ((l.length : Int) != (m.length : Int)) = false := by simp; omega
    have hnn2 : (l.length != m.length) = false := by simp; omega
    clear hlm
    go_enter Try.func25, Try.ntmps25
    go_wp2
    go_loopw [13] (fun i wr => ∃ k : Nat, k ≤ l.length ∧ i = .int .i64 k ∧ Hid (eqL l m = eqL (l.drop k) (m.drop k)) ∧ Near w wr) (fun i _ => l.length - (intOf i).toNat)
    case atStart => exact ⟨0, Nat.zero_le _, rfl, Lib.hid rfl, Near.refl _⟩
    case round =>
      obtain ⟨k, hk, rfl, hx, hN⟩ := hrel
      by_cases hlt : k < l.length
      · have hlt2 : k < m.length := by omega
        obtain ⟨b, o, rfl, hb, c0, c1, c2, c3, c4, c5, c6, c7⟩ := (hA.ext hN.1).off hlt
        obtain ⟨b2, o2, rfl, hb2, d0, d1, d2, d3, d4, d5, d6, d7⟩ := (hB.ext hN.1).off hlt2
        have hst := Lib.hid (eqL_step hlt hlt2)
        have he := run_neq_off l[k] m[k]
        generalize l[k] = x at *
        generalize m[k] = y at *
        have hN0 := hN
        clear hN
        have hN := Near.refl wr
        cases hxy : offEq x y
        · go_wp2
          have hq := quiet_near hN
          refine wp_region_quiet_below (by kernel_rfl) (by kernel_rfl) ?_
          repeat (first | go_big_quiet_skip | (go_big_quiet_want; go_big_quiet_op; first | go_big_quiet_on | (apply Exists.intro; refine ⟨fun _ => ?_, ?_⟩; (focus (first | fail)); go_big_quiet_on)))
          refine wpQuiet_nil ?_
          intro w1 hw1
          clear hq
          replace hw1 := quiet_ext hw1
          replace hN := hN.step hw1
          have hC := hN.2
          go_wp2
          go_ret
          exact ⟨ret_bool (by rw [hx.out, hst.out, hxy]; rfl), hN0.1.trans hN.1⟩
        · go_wp2
          have hq := quiet_near hN
          refine wp_region_quiet_below (by kernel_rfl) (by kernel_rfl) ?_
          repeat (first | go_big_quiet_skip | (go_big_quiet_want; go_big_quiet_op; first | go_big_quiet_on | (apply Exists.intro; refine ⟨fun _ => ?_, ?_⟩; (focus (first | fail)); go_big_quiet_on)))
          refine wpQuiet_nil ?_
          intro w1 hw1
          clear hq
          replace hw1 := quiet_ext hw1
          replace hN := hN.step hw1
          have hC := hN.2
          go_wp2
          go_roundw
          case rel => exact ⟨k + 1, by omega, by go_num, Lib.hid (by rw [hx.out, hst.out, hxy]; rfl), .of (hN0.1.trans hN.1)⟩
          case measure => simp [intOf]; omega
      · go_wp2
        go_ret
        refine ⟨ret_bool ?_, hN.1⟩
        rw [hx.out, List.drop_eq_nil_of_le (by omega), List.drop_eq_nil_of_le (by omega)]
        rfl
  · have hnn : ((l.length : Int) != (m.length : Int)) = true := by simp; omega
    have hnn2 : (l.length != m.length) = true := by simp; omega
    have he := Lib.hid (eqL_len hlm)
    clear hlm
    go_enter Try.func25, Try.ntmps25
    go_wp2
    go_ret
    exact ⟨ret_bool he.out.symm, Ext.refl _⟩

end Go.Proofs.Ytlhdmhgbclfneaa
