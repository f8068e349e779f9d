
/- Layer 24 (journey): lists of numbers compared. -/
import Derived.Test.YtbgdglcnminbaaaGreatPlnA
import Derived.Test.YtbgdglcnminbaaaGreatRows
import Derived.Laws.StructEq
import Derived.LaidEql
namespace Go.Proofs.YtbgdglcnminbaaaGreat
set_option linter.unusedVariables false
open Go.RowKit

set_option maxHeartbeats 2000000 in
theorem equalInt_any (A B : Option Addr) (c d : Nat) (l m : List Int) (w : World) (hA : Rd EInt w A l) (hB : Rd EInt w B m) (hmax : l.length ≤ 1000000) (hmax2 : m.length ≤ 1000000) :
    Calls Tryz.prog 10 #[.slice A l.length c, .slice B m.length d] w fun e w' => e = .returned (.bool (eqLB (fun x y : Int => x == y) l m)) ∧ Ext w w' := by
  by_cases hlm : l.length = m.length
  · have h1 : l.length ≤ m.length := by omega
    have h2 : m.length ≤ l.length := by omega
    have hnn : ((l.length : Int) != (m.length : Int)) = false := by simp; omega
    have hnn2 : (l.length != m.length) = false := by simp; omega
    clear hlm
    go_enter Tryz.func10, Tryz.ntmps10
    go_wp2
    go_loopg [13] l.length (fun q i wr => ∃ k : Nat, k + q = l.length ∧ i = .int .i64 k ∧ eqLB (fun x y : Int => x == y) l m = eqLB (fun x y : Int => x == y) (l.drop k) (m.drop k) ∧ Ext w wr)
    case atStart => exact ⟨0, by omega, rfl, rfl, Ext.refl _⟩
    case round =>
      obtain ⟨k, hk, rfl, hx, hN⟩ := hrel
      have Hx := Lib.hid hx
      clear hx
      by_cases hlt : k < l.length
      · have hlt2 : k < m.length := by omega
        obtain ⟨b, o, rfl, hb, c0⟩ := (hA.ext hN).int hlt
        obtain ⟨b2, o2, rfl, hb2, d0⟩ := (hB.ext hN).int hlt2
        have hst := Lib.hid (eqLB_step (f := fun x y : Int => x == y) hlt hlt2)
        generalize l[k] = x at *
        generalize m[k] = y at *
        have hN0 := hN
        clear hN
        have hN := Near.refl wr
        by_cases hxy : x = y
        · subst hxy
          go_wp2
          have hq := quiet_near hN
          refine wp_region_quiet_below (by kernel_rfl) (by kernel_rfl) ?_
          repeat (first | go_big_quiet_skip | (go_big_quiet_want; go_big_quiet_op; first | go_big_quiet_on | (apply Exists.intro; refine ⟨fun _ => ?_, ?_⟩; (focus (first | fail)); go_big_quiet_on)))
          refine wpQuiet_nil ?_
          intro w1 hw1
          clear hq
          replace hw1 := quiet_ext hw1
          replace hN := hN.step hw1
          have hC := hN.2
          go_wp2
          go_roundg (gk - 1)
          case measure => omega
          case rel => exact ⟨k + 1, by omega, by go_num, by rw [Hx.out, hst.out]; simp, hN0.trans hN.1⟩
        · have hd : (x != y) = true := by simpa using hxy
          have Hxy := Lib.hid hxy
          clear hxy
          go_wp2
          have hq := quiet_near hN
          refine wp_region_quiet_below (by kernel_rfl) (by kernel_rfl) ?_
          repeat (first | go_big_quiet_skip | (go_big_quiet_want; go_big_quiet_op; first | go_big_quiet_on | (apply Exists.intro; refine ⟨fun _ => ?_, ?_⟩; (focus (first | fail)); go_big_quiet_on)))
          refine wpQuiet_nil ?_
          intro w1 hw1
          clear hq
          replace hw1 := quiet_ext hw1
          replace hN := hN.step hw1
          have hC := hN.2
          go_wp2
          go_ret
          exact ⟨ret_bool (by rw [Hx.out, hst.out]; simp [Hxy.out]), hN0.trans hN.1⟩
      · go_wp2
        go_ret
        refine ⟨ret_bool ?_, hN⟩
        rw [Hx.out, List.drop_eq_nil_of_le (by omega), List.drop_eq_nil_of_le (by omega)]
        rfl
  · have hnn : ((l.length : Int) != (m.length : Int)) = true := by simp; omega
    have hnn2 : (l.length != m.length) = true := by simp; omega
    have he := Lib.hid (eqLB_len (f := fun x y : Int => x == y) hlm)
    clear hlm
    go_enter Tryz.func10, Tryz.ntmps10
    go_wp2
    go_ret
    exact ⟨ret_bool he.out.symm, Ext.refl _⟩
theorem equalInt_ex (A B : Option Addr) (c d : Nat) (l : List Int) (w : World) (hA : Rd EInt w A l) (hB : Rd EInt w B l) (hmax : l.length ≤ 1000000) :
    Calls Tryz.prog 10 #[.slice A l.length c, .slice B l.length d] w fun e w' => e = .returned (.bool true) ∧ Ext w w' := by
  have h := equalInt_any A B c d l l w hA hB hmax hmax
  rw [eqLB_refl (fun x => by simp)] at h
  exact h


end Go.Proofs.YtbgdglcnminbaaaGreat
