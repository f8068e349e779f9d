
/- Layer 26 (reach): the walks of valid (with ContainsFunc at numbers), of the law's fine, and of the reference's check and Great. -/
import Derived.Test.YtifopbkhflpbfaaGreatPlnA
import Derived.Test.YtifopbkhflpbfaaGreatPlnW1
namespace Go.Proofs.YtifopbkhflpbfaaGreat
set_option linter.unusedVariables false
set_option linter.unusedSimpArgs false
open Go.RowKit Go.Shelf

/-- A function value that answers p of a number, and makes memory at most. -/
structure PredI (w0 : World) (f : FuncId) (cs : Array Value) (p : Int → Bool) : Prop where
  enters : ∀ args w, (callFunc f args).run Tryz.prog w = .ok (.enter f args) w
  says : ∀ (x : Int) (w : World), Ext w0 w → Calls Tryz.prog f (#[.int .i64 x] ++ cs) w fun e w' => e = .returned (.bool (p x)) ∧ Ext w w'

set_option maxHeartbeats 2000000 in
theorem indexI_any (A : Option Addr) (c : Nat) (l : List Int) (f : FuncId) (cs : Array Value) (p : Int → Bool) (w : World) (hA : Rd EInt w A l) (hmax : l.length ≤ 1000000) (hp : PredI w f cs p) :
    Calls Tryz.prog 40 #[.slice A l.length c, .func (.func f) #[] cs] w fun e w' => e = .returned (.int .i64 (findI p l)) ∧ Ext w w' := by
  have hen := hp.enters
  go_enter Tryz.func40, Tryz.ntmps40
  go_wp2
  go_loopw [8] (fun i wr => ∃ k : Nat, k ≤ l.length ∧ i = .int .i64 k ∧ Hid ((l.take k).any p = false) ∧ Ext w wr) (fun i _ => l.length - (intOf i).toNat)
  case atStart => exact ⟨0, Nat.zero_le _, rfl, Lib.hid rfl, Ext.refl _⟩
  case round =>
    obtain ⟨k, hk, rfl, hu, hN⟩ := hrel
    by_cases hlt : k < l.length
    · obtain ⟨b, o, rfl, hb, c0⟩ := (hA.ext hN).int hlt
      generalize hxe : l[k] = x at *
      have Hx := Lib.hid hxe
      clear hxe
      cases hpx : p x
      all_goals
        go_wp2_with fail
        refine (hp.says x _ hN).mono ?_
        rintro e w1 ⟨rfl, hb1⟩
        rw [hpx]
      · go_wp2
        go_roundw
        case rel => exact ⟨k + 1, by omega, by go_num, Lib.hid (any_step hlt Hx.out hu.out hpx), hN.trans hb1⟩
        case measure => simp [intOf]; omega
      · go_wp2
        go_ret
        refine ⟨ret_i64 ?_, hN.trans hb1⟩
        exact (findI_at hlt hu.out (by rw [Hx.out]; exact hpx)).symm
    · go_wp2
      go_ret
      refine ⟨ret_i64 ?_, hN⟩
      have e : l.take k = l := List.take_of_length_le (by omega)
      have h := hu.out
      rw [e] at h
      exact (findI_nope h).symm
set_option maxHeartbeats 1000000 in
theorem containsI_any (A : Option Addr) (c : Nat) (l : List Int) (f : FuncId) (cs : Array Value) (p : Int → Bool) (w : World) (hA : Rd EInt w A l) (hmax : l.length ≤ 1000000) (hp : PredI w f cs p) :
    Calls Tryz.prog 37 #[.slice A l.length c, .func (.func f) #[] cs] w fun e w' => e = .returned (.bool (l.any p)) ∧ Ext w w' := by
  have hfn := Lib.hid (findI_neg (p := p) (l := l))
  go_enter Tryz.func37, Tryz.ntmps37
  go_wp2_with fail
  refine (indexI_any A c l f cs p w hA hmax hp).mono ?_
  rintro e w1 ⟨rfl, hb⟩
  go_wp2
  go_ret
  exact ⟨ret_bool hfn.out, hb⟩

/-- A node that is none. -/
def noNode (N : Nat) (x : Int) : Bool := decide (x < 0) || decide ((N : Int) ≤ x)
theorem noNode_any {N : Nat} {l : List Int} : l.any (noNode N) = !decide (∀ x ∈ l, 0 ≤ x ∧ x < N) := by
  rw [Bool.eq_iff_iff]
  simp only [List.any_eq_true, noNode, Bool.or_eq_true, decide_eq_true_eq, Bool.not_eq_true', decide_eq_false_iff_not]
  constructor
  · rintro ⟨x, hx, h⟩ hh
    have := hh x hx
    omega
  · intro hh
    apply Classical.byContradiction
    intro hn
    apply hh
    intro x hx
    apply Classical.byContradiction
    intro h2
    exact hn ⟨x, hx, by omega⟩
set_option maxHeartbeats 1000000 in
theorem pred_rv {w0 : World} {g cq cc : Nat} {Aq Ac : Option Addr} {N M : Nat} (h : Blk w0 g 25 #[.slice Aq N cq, .slice Ac M cc]) (hN : N ≤ 1000000) : PredI w0 38 #[.pointer (some ⟨g, 0, none⟩)] (noNode N) where
  enters := enters_of Tryz.func38 (by kernel_rfl) rfl
  says := fun x w hw => by
    have hk := h.ext hw
    have hc := hk.cell
    have hl := hk.lt
    show Calls Tryz.prog 38 #[_, _] w _
    unfold noNode
    by_cases hx0 : x < 0
    all_goals
      by_cases hx1 : (N : Int) ≤ x
      all_goals
        first
          | (have d0 : decide (x < 0) = true := decide_eq_true hx0)
          | (have d0 : decide (x < 0) = false := decide_eq_false hx0)
        first
          | (have d1 : decide ((N : Int) ≤ x) = true := decide_eq_true hx1)
          | (have d1 : decide ((N : Int) ≤ x) = false := decide_eq_false hx1)
        rw [d0, d1]
        clear hx0 hx1
        go_enter Tryz.func38, Tryz.ntmps38
        go_wp2
        go_ret
        exact ⟨rfl, Ext.refl _⟩

set_option maxRecDepth 100000 in
set_option maxHeartbeats 4000000 in
theorem rvalid_any (Aq : Option Addr) (cq : Nat) (Ac : Option Addr) (cc : Nat) (p : Pln) (n : Int) (An : Option Addr) (cn : Nat) (nodes : List Int) (w : World) (h : PlnRd w Aq cq Ac cc p) (hn : Rd EInt w An nodes) (hnl : nodes.length ≤ 1000) :
    Calls Tryz.prog 22 #[p.val Aq cq Ac cc, .int .i64 n, .slice An nodes.length cn] w fun e w' => e = .returned (.int .i64 (p.rv n nodes)) ∧ Ext w w' := by
  obtain ⟨W, hW, hB, hk, hlt⟩ := box1 w #[.slice Aq p.quo.length cq, .slice Ac p.cons.length cc] 25
  have hc := hk.cell
  have hqm := h.qm
  have hpc := pcheck_any Aq cq Ac cc p W (h.ext hB)
  by_cases h0 : p.chk = 0
  · rw [h0] at hpc
    have H0 := Lib.hid h0
    clear h0
    unfold Pln.val at hpc ⊢
    by_cases hn1 : n < 1
    · have d1 : decide (n < 1) = true := decide_eq_true hn1
      have Hr := Lib.hid (show p.rv n nodes = 2 by unfold Pln.rv; rw [if_pos H0.out, if_neg]; simp only [Pln.argR, decide_eq_true_eq]; omega)
      rw [Hr.out]
      clear hn1
      go_enter Tryz.func22, Tryz.ntmps22
      go_wp2_with fail
      clear hW
      refine hpc.mono ?_
      rintro e w1 ⟨rfl, hb1⟩
      go_wp2
      go_ret
      exact ⟨rfl, hB.trans hb1⟩
    have d1 : decide (n < 1) = false := decide_eq_false hn1
    by_cases hn2 : 65536 < n
    · have d2 : decide (65536 < n) = true := decide_eq_true hn2
      have Hr := Lib.hid (show p.rv n nodes = 2 by unfold Pln.rv; rw [if_pos H0.out, if_neg]; simp only [Pln.argR, decide_eq_true_eq]; omega)
      rw [Hr.out]
      clear hn1 hn2
      go_enter Tryz.func22, Tryz.ntmps22
      go_wp2_with fail
      clear hW
      refine hpc.mono ?_
      rintro e w1 ⟨rfl, hb1⟩
      go_wp2
      go_ret
      exact ⟨rfl, hB.trans hb1⟩
    have d2 : decide (65536 < n) = false := decide_eq_false hn2
    have hany := noNode_any (N := p.quo.length) (l := nodes)
    cases hno : nodes.any (noNode p.quo.length)
    all_goals
      have Hr := Lib.hid (show p.rv n nodes = if nodes.any (noNode p.quo.length) then 2 else 0 by
        unfold Pln.rv
        rw [if_pos H0.out, hany]
        by_cases hh : ∀ x ∈ nodes, 0 ≤ x ∧ x < (p.quo.length : Int)
        · have e1 : p.argR n nodes = true := by simp only [Pln.argR, decide_eq_true_eq]; exact ⟨by omega, by omega, hh⟩
          rw [e1, decide_eq_true hh]; rfl
        · have e1 : p.argR n nodes = false := by simp only [Pln.argR, decide_eq_false_iff_not]; exact fun h => hh h.2.2
          rw [e1, decide_eq_false hh]; rfl)
      rw [Hr.out, hno]
      clear hn1 hn2 hany
      have hcf := fun w1 (hb1 : Ext W w1) => containsI_any An cn nodes 38 #[.pointer (some ⟨w.heap.size, 0, none⟩)] (noNode p.quo.length) w1 ((hn.ext hB).ext hb1) (by omega) (pred_rv (hk.ext hb1) hqm)
      rw [hno] at hcf
      clear hno
      go_enter Tryz.func22, Tryz.ntmps22
      go_wp2_with fail
      clear hW
      refine hpc.mono ?_
      rintro e w1 ⟨rfl, hb1⟩
      go_wp2_with fail
      refine (hcf _ hb1).mono ?_
      rintro e w2 ⟨rfl, hb2⟩
      go_wp2
      go_ret
      exact ⟨rfl, (hB.trans hb1).trans hb2⟩
  · have hd : (p.chk != 0) = true := by simpa using h0
    have Hr := Lib.hid (show p.rv n nodes = 1 by unfold Pln.rv; rw [if_neg h0])
    rw [Hr.out]
    clear h0
    unfold Pln.val at hpc ⊢
    go_enter Tryz.func22, Tryz.ntmps22
    go_wp2_with fail
    clear hW
    refine hpc.mono ?_
    rintro e w1 ⟨rfl, hb1⟩
    go_wp2
    go_ret
    exact ⟨rfl, hB.trans hb1⟩

end Go.Proofs.YtifopbkhflpbfaaGreat
