
/- Layer 24 (journey): the walk of valid. · Layer 24 (journey): the walks of slices.Contains of numbers and of Check. -/
import Derived.Test.YtmaengcmhopmbaaGreatJrWA
import Derived.Test.YtmaengcmhopmbaaGreatReqW1
import Derived.Test.YtmaengcmhopmbaaGreatJrA
namespace Go.Proofs.YtmaengcmhopmbaaGreat
set_option linter.unusedVariables false
set_option linter.unusedSimpArgs false
open Go.RowKit Go.Shelf

set_option maxRecDepth 100000 in
set_option maxHeartbeats 4000000 in
theorem valid_any (Aq : Option Addr) (cq : Nat) (Ac : Option Addr) (cc : Nat) (p : Pln) (q : Req) (w : World) (hn : p.quo.length ≤ 1000000) :
    Calls Tryz.prog 18 #[p.val Aq cq Ac cc, q.val] w fun e w' => e = .returned (.bool (q.okB p.quo.length)) ∧ Ext w w' := by
  obtain ⟨W, hW, hB, hk, hk2, hlt, hlt2⟩ := box2 w #[.slice Aq p.quo.length cq, .slice Ac p.cons.length cc] q.cells 25 27
  simp only [Req.cells] at hW hk2
  have hc := hk.cell
  have hc2 := hk2.cell
  cases hq : q.okB p.quo.length
  · have hq2 := hq
    simp only [Req.okB, decide_eq_false_iff_not] at hq2
    have Hq := Lib.hid hq2
    have Hq3 := Lib.hid hq
    clear hq hq2
    unfold Pln.val Req.val
    go_enter Tryz.func18, Tryz.ntmps18
    go_wp2
    all_goals go_ret
    all_goals refine ⟨ret_bool ?_, hB⟩
    all_goals (try rfl)
    all_goals first
      | (exfalso; apply Hq.out; clear hc hc2 hk hk2 hW hB Hq Hq3; (try simp_all); (try omega); done)
      | (clear hc hc2 hk hk2 hW hB; (by_cases h9 : q.prio ≤ 2) <;> first | (exfalso; apply Hq.out; clear Hq Hq3; (try simp_all); (try omega); done) | (simp [h9]; done))
  · have hq2 := hq
    simp only [Req.okB, decide_eq_true_eq] at hq2
    obtain ⟨a1, a2, a3, a4, a5, a6, a7, a8, a9, a10, a11, a12⟩ := hq2
    have ad : (q.src == q.dst) = false := by simpa using a5
    have Hq3 := Lib.hid hq
    clear hq a5
    unfold Pln.val Req.val
    go_enter Tryz.func18, Tryz.ntmps18
    go_wp2
    go_ret
    exact ⟨rfl, hB⟩

end Go.Proofs.YtmaengcmhopmbaaGreat

namespace Go.Proofs.YtmaengcmhopmbaaGreat
set_option linter.unusedVariables false
set_option linter.unusedSimpArgs false
open Go.RowKit Go.Shelf

set_option maxHeartbeats 1000000 in
theorem indexInt_any (A : Option Addr) (c : Nat) (l : List Int) (x : Int) (w : World) (hA : Rd EInt w A l) (hmax : l.length ≤ 2199023255552) :
    Calls Tryz.prog 115 #[.slice A l.length c, .int .i64 x] w fun e w' => e = .returned (.int .i64 (findI (fun y => y == x) l)) ∧ Ext w w' := by
  go_enter Tryz.func115, Tryz.ntmps115
  go_wp2
  go_loopg [8] l.length (fun n i wr => ∃ k : Nat, k + n = l.length ∧ i = .int .i64 k ∧ Hid ((l.take k).any (fun y => y == x) = false) ∧ Ext w wr)
  case atStart => exact ⟨0, by omega, rfl, Lib.hid rfl, Ext.refl _⟩
  case round =>
    obtain ⟨k, hkl, rfl, hu, hN⟩ := hrel
    by_cases hlt : k < l.length
    · obtain ⟨b, o, rfl, hb, c0⟩ := (hA.ext hN).int hlt
      have Hl := Lib.hid hkl
      generalize hxe : l[k] = y at *
      have Hx := Lib.hid hxe
      clear hxe hkl
      by_cases hxy : y = x
      · subst hxy
        go_wp2
        go_ret
        exact ⟨ret_i64 (findI_at hlt hu.out (by rw [Hx.out]; simp)).symm, hN⟩
      · have hd : (x == y) = false := by simp; exact fun e => hxy e.symm
        have hd2 : (y == x) = false := by simp; exact hxy
        have Hd := Lib.hid hd2
        clear hxy hd2
        go_wp2
        go_roundg (gk - 1)
        case measure => have := Hl.out; omega
        case rel => exact ⟨k + 1, by have := Hl.out; omega, by go_num, Lib.hid (any_step hlt Hx.out hu.out Hd.out), hN⟩
    · have hle : l.length ≤ k := by omega
      have hu2 := hu.out
      rw [List.take_of_length_le hle] at hu2
      have Hu := Lib.hid hu2
      clear hu2
      go_wp2
      go_ret
      exact ⟨ret_i64 (findI_nope Hu.out).symm, hN⟩
set_option maxHeartbeats 1000000 in
theorem containsInt_any (A : Option Addr) (c : Nat) (l : List Int) (x : Int) (w : World) (hA : Rd EInt w A l) (hmax : l.length ≤ 2199023255552) :
    Calls Tryz.prog 73 #[.slice A l.length c, .int .i64 x] w fun e w' => e = .returned (.bool (seenB l x)) ∧ Ext w w' := by
  have hfn := Lib.hid (findI_neg (p := fun y => y == x) (l := l))
  have hi := fun w hA => indexInt_any A c l x w hA hmax
  go_enter Tryz.func73, Tryz.ntmps73
  go_wp2_with fail
  refine (hi _ hA).mono ?_
  rintro e w1 ⟨rfl, hb⟩
  clear hi
  go_wp2
  go_ret
  exact ⟨ret_bool hfn.out, hb⟩

theorem chkL_step {cons : List Con} {n dest D a now : Int} {seen : List Int} {l : List Hp} {j : Nat} {y : Hp} (h : j < l.length) (hy : l[j] = y) :
    chkL cons n dest D a now seen (l.drop j) = chkL cons n dest D a now seen (y :: l.drop (j + 1)) := by
  rw [List.drop_eq_getElem_cons h, hy]
theorem fitsR_ok {c : Con} {b n : Int} (h : c.Ok) (hn : 1 ≤ n ∧ n ≤ 65536) : c.fitsR b n = c.fitsB b n := by
  unfold Con.fitsR
  rw [Con.arg_ok.2 ⟨h, hn⟩]
  simp

end Go.Proofs.YtmaengcmhopmbaaGreat
