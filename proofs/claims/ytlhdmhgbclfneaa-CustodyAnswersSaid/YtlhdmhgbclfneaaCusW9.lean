/- Layer 44 (custody): IndexFunc, ContainsFunc, and the closures. -/
import Derived.Test.YtlhdmhgbclfneaaCusW8
namespace Go.Proofs.Ytlhdmhgbclfneaa
set_option linter.unusedVariables false
open Go.RowKit

def findI (p : Off → Bool) (l : List Off) : Int := if l.any p then (l.findIdx p : Nat) else -1

theorem findI_at {p : Off → Bool} {l : List Off} {k : Nat} (h : k < l.length) (h1 : (l.take k).any p = false) (h2 : p l[k] = true) : findI p l = k := by
  have h3 : l.any p = true := List.any_eq_true.2 ⟨l[k], List.getElem_mem h, h2⟩
  have h4 : l.findIdx p = k := (List.findIdx_eq h).2 ⟨h2, fun j hj => by
    have h5 := List.any_eq_false.1 h1 (l[j]'(by omega)) (by
      rw [List.mem_take_iff_getElem]
      exact ⟨j, by omega, rfl⟩)
    simpa using h5⟩
  unfold findI
  rw [if_pos h3, h4]
theorem findI_neg {p : Off → Bool} {l : List Off} : decide (0 ≤ findI p l) = l.any p := by
  unfold findI
  split
  · rename_i h; rw [h]; simp
  · rename_i h; simp at h; simp; exact h

set_option maxHeartbeats 2000000 in
theorem indexFunc_any (A : Option Addr) (c : Nat) (l : List Off) (f : FuncId) (cs : Array Value) (p : Off → Bool) (w : World) (hA : Rd EOff w A l) (hmax : l.length ≤ 1000000) (hp : Pred w f cs p) :
    Calls Try.prog 39 #[.slice A l.length c, .func (.func f) #[] cs] w fun e w' => e = .returned (.int .i64 (findI p l)) ∧ Ext w w' := by
  have hen := hp.enters
  go_enter Try.func39, Try.ntmps39
  go_wp2
  go_loopw [8] (fun i wr => ∃ k : Nat, k ≤ l.length ∧ i = .int .i64 k ∧ Hid ((l.take k).any p = false) ∧ Ext w wr) (fun i _ => l.length - (intOf i).toNat)
  case atStart => exact ⟨0, Nat.zero_le _, rfl, Lib.hid rfl, Ext.refl _⟩
  case round =>
    obtain ⟨k, hk, rfl, hu, hN⟩ := hrel
    by_cases hlt : k < l.length
    · obtain ⟨b, o, rfl, hb, c0, c1, c2, c3, c4, c5, c6, c7⟩ := (hA.ext hN).off hlt
      generalize hxe : l[k] = x at *
      have Hx := Lib.hid hxe
      clear hxe
      cases hpx : p x
      all_goals
        go_wp2_with fail
        refine (hp.says x _ hN).mono ?_
        rintro e w1 ⟨rfl, hb1⟩
        rw [hpx]
      · go_wp2
        go_roundw
        case rel => exact ⟨k + 1, by omega, by go_num, Lib.hid (by rw [take_snoc hlt Hx.out, List.any_append, hu.out]; simp [hpx]), hN.trans hb1⟩
        case measure => simp [intOf]; omega
      · go_wp2
        go_ret
        refine ⟨ret_i64 ?_, hN.trans hb1⟩
        exact (findI_at hlt hu.out (by rw [Hx.out]; exact hpx)).symm
    · go_wp2
      go_ret
      refine ⟨ret_i64 ?_, hN⟩
      have e : l.take k = l := List.take_of_length_le (by omega)
      have h := hu.out
      rw [e] at h
      simp [findI, h]

set_option maxHeartbeats 1000000 in
theorem containsFunc_any (A : Option Addr) (c : Nat) (l : List Off) (f : FuncId) (cs : Array Value) (p : Off → Bool) (w : World) (hA : Rd EOff w A l) (hmax : l.length ≤ 1000000) (hp : Pred w f cs p) :
    Calls Try.prog 29 #[.slice A l.length c, .func (.func f) #[] cs] w fun e w' => e = .returned (.bool (l.any p)) ∧ Ext w w' := by
  have hfn := Lib.hid (findI_neg (p := p) (l := l))
  go_enter Try.func29, Try.ntmps29
  go_wp2_with fail
  refine (indexFunc_any A c l f cs p w hA hmax hp).mono ?_
  rintro e w1 ⟨rfl, hb⟩
  go_wp2
  go_ret
  exact ⟨ret_bool hfn.out, hb⟩

end Go.Proofs.Ytlhdmhgbclfneaa
