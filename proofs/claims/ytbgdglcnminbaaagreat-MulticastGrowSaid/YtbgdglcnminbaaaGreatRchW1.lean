
/- Layer 26 (reach): the walks of valid (with ContainsFunc at numbers), of the law's fine, and of the reference's check and Great. -/
import Derived.Test.YtbgdglcnminbaaaGreatPlnA
import Derived.Test.YtbgdglcnminbaaaGreatPlnW1
namespace Go.Proofs.YtbgdglcnminbaaaGreat
set_option linter.unusedVariables false
set_option linter.unusedSimpArgs false
open Go.RowKit Go.Shelf

/-- A function value that answers p of a number, and makes memory at most. -/
structure PredI (w0 : World) (f : FuncId) (cs : Array Value) (p : Int → Bool) : Prop where
  enters : ∀ args w, (callFunc f args).run Tryz.prog w = .ok (.enter f args) w
  says : ∀ (x : Int) (w : World), Ext w0 w → Calls Tryz.prog f (#[.int .i64 x] ++ cs) w fun e w' => e = .returned (.bool (p x)) ∧ Ext w w'

set_option maxHeartbeats 2000000 in
theorem indexI_any (A : Option Addr) (c : Nat) (l : List Int) (f : FuncId) (cs : Array Value) (p : Int → Bool) (w : World) (hA : Rd EInt w A l) (hmax : l.length ≤ 1000000) (hp : PredI w f cs p) :
    Calls Tryz.prog 88 #[.slice A l.length c, .func (.func f) #[] cs] w fun e w' => e = .returned (.int .i64 (findI p l)) ∧ Ext w w' := by
  have hen := hp.enters
  go_enter Tryz.func88, Tryz.ntmps88
  go_wp2
  go_loopw [8] (fun i wr => ∃ k : Nat, k ≤ l.length ∧ i = .int .i64 k ∧ Hid ((l.take k).any p = false) ∧ Ext w wr) (fun i _ => l.length - (intOf i).toNat)
  case atStart => exact ⟨0, Nat.zero_le _, rfl, Lib.hid rfl, Ext.refl _⟩
  case round =>
    obtain ⟨k, hk, rfl, hu, hN⟩ := hrel
    by_cases hlt : k < l.length
    · obtain ⟨b, o, rfl, hb, c0⟩ := (hA.ext hN).int hlt
      generalize hxe : l[k] = x at *
      have Hx := Lib.hid hxe
      clear hxe
      cases hpx : p x
      all_goals
        go_wp2_with fail
        refine (hp.says x _ hN).mono ?_
        rintro e w1 ⟨rfl, hb1⟩
        rw [hpx]
      · go_wp2
        go_roundw
        case rel => exact ⟨k + 1, by omega, by go_num, Lib.hid (any_step hlt Hx.out hu.out hpx), hN.trans hb1⟩
        case measure => simp [intOf]; omega
      · go_wp2
        go_ret
        refine ⟨ret_i64 ?_, hN.trans hb1⟩
        exact (findI_at hlt hu.out (by rw [Hx.out]; exact hpx)).symm
    · go_wp2
      go_ret
      refine ⟨ret_i64 ?_, hN⟩
      have e : l.take k = l := List.take_of_length_le (by omega)
      have h := hu.out
      rw [e] at h
      exact (findI_nope h).symm
set_option maxHeartbeats 1000000 in
theorem containsI_any (A : Option Addr) (c : Nat) (l : List Int) (f : FuncId) (cs : Array Value) (p : Int → Bool) (w : World) (hA : Rd EInt w A l) (hmax : l.length ≤ 1000000) (hp : PredI w f cs p) :
    Calls Tryz.prog 62 #[.slice A l.length c, .func (.func f) #[] cs] w fun e w' => e = .returned (.bool (l.any p)) ∧ Ext w w' := by
  have hfn := Lib.hid (findI_neg (p := p) (l := l))
  go_enter Tryz.func62, Tryz.ntmps62
  go_wp2_with fail
  refine (indexI_any A c l f cs p w hA hmax hp).mono ?_
  rintro e w1 ⟨rfl, hb⟩
  go_wp2
  go_ret
  exact ⟨ret_bool hfn.out, hb⟩

/-- A node that is none. -/
def noNode (N : Nat) (x : Int) : Bool := decide (x < 0) || decide ((N : Int) ≤ x)
theorem noNode_any {N : Nat} {l : List Int} : l.any (noNode N) = !decide (∀ x ∈ l, 0 ≤ x ∧ x < N) := by
  rw [Bool.eq_iff_iff]
  simp only [List.any_eq_true, noNode, Bool.or_eq_true, decide_eq_true_eq, Bool.not_eq_true', decide_eq_false_iff_not]
  constructor
  · rintro ⟨x, hx, h⟩ hh
    have := hh x hx
    omega
  · intro hh
    apply Classical.byContradiction
    intro hn
    apply hh
    intro x hx
    apply Classical.byContradiction
    intro h2
    exact hn ⟨x, hx, by omega⟩
end Go.Proofs.YtbgdglcnminbaaaGreat
