/- Layer 44 (custody): the walk of CustodyAccepted. -/
import Derived.Test.YtlhdmhgbclfneaaCusW17
namespace Go.Proofs.Ytlhdmhgbclfneaa
set_option linter.unusedVariables false
open Go.RowKit

theorem isKey_self (x : Off) : isKey x.id x.con x = true := by simp [isKey, keyEq, idEq]
theorem acc_first {l : List Off} {x : Off} (h : chk l = 0) (hx : x ∈ l) : sigL l x.id x.con true = l.filter (fun o => !idEq o.id x.id) ∧ sigN l x.id x.con true = 2 ∧ sigE l = 0 := by
  have hn : ¬ l.filter (isKey x.id x.con) = [] := fun e => by
    have := List.any_eq_false.1 ((none_iff l x.id x.con).1 e) x hx
    exact this (isKey_self x)
  refine ⟨?_, ?_, ?_⟩
  · unfold sigL; rw [if_pos h, if_neg hn, if_pos rfl]
  · unfold sigN; rw [if_pos h, if_neg hn, if_pos rfl]
  · unfold sigE; rw [if_pos h]
theorem acc_again {l : List Off} {x : Off} (h : chk l = 0) : sigL (l.filter (fun o => !idEq o.id x.id)) x.id x.con true = l.filter (fun o => !idEq o.id x.id) ∧ sigN (l.filter (fun o => !idEq o.id x.id)) x.id x.con true = 1 ∧ sigE (l.filter (fun o => !idEq o.id x.id)) = 0 := by
  have hc := chk_sub h (List.filter_sublist (p := fun o => !idEq o.id x.id))
  have hn : (l.filter (fun o => !idEq o.id x.id)).filter (isKey x.id x.con) = [] := by
    rw [List.filter_eq_nil_iff]
    intro y hy hk
    have h1 := (List.mem_filter.1 hy).2
    rw [isKey_id hk] at h1
    cases h1
  refine ⟨?_, ?_, ?_⟩
  · unfold sigL; rw [if_pos hc, if_pos hn]
  · unfold sigN; rw [if_pos hc, if_pos hn]
  · unfold sigE; rw [if_pos hc]

set_option maxRecDepth 100000 in
set_option maxHeartbeats 2000000 in
theorem accepted_walk (A : Option Addr) (c : Nat) (l : List Off) (a : Int) (w : World) (hA : Rd EOff w A l) (hcap : l.length ≤ c) (hmc : c ≤ maxLen) (ha : 0 ≤ a ∧ a ≤ 255) :
    Calls Try.prog 7 #[.slice A l.length c, .int .u8 a] w fun e w' => e = .returned (.bool true) ∧ Ext w w' := by
  have hmx : l.length ≤ 9223372036854775807 := by unfold maxLen at hmc; omega
  obtain ⟨ha0, ha1⟩ := ha
  by_cases hg : 70 < l.length
  · go_enter Try.func7, Try.ntmps7
    go_wp2_with fail
    refine (great_any A c l w hmx).mono ?_
    rintro e w1 ⟨rfl, rfl⟩
    rw [decide_eq_true hg]
    go_wp2_with fail
    refine (awake_any _).mono ?_
    rintro e w2 ⟨rfl, hb2⟩
    go_wp2
    go_ret
    exact ⟨rfl, hb2⟩
  · have hm6 : l.length ≤ 1000000 := by omega
    by_cases hl0 : l.length = 0
    · have hd : ((l.length : Int) == 0) = true := by rw [hl0]; rfl
      have Hl0 := Lib.hid hl0
      clear hl0
      go_enter Try.func7, Try.ntmps7
      go_wp2_with fail
      refine (great_any A c l w hmx).mono ?_
      rintro e w1 ⟨rfl, rfl⟩
      rw [decide_eq_false hg]
      go_wp2_with fail
      refine (awake_any _).mono ?_
      rintro e w2 ⟨rfl, hb2⟩
      go_wp2
      go_ret
      exact ⟨rfl, hb2⟩
    · have hd : ((l.length : Int) == 0) = false := by simp only [beq_eq_false_iff_ne, ne_eq]; omega
      have hpos : 0 < l.length := by omega
      have Hl0 := Lib.hid hl0
      clear hl0
      by_cases hk0 : chk l = 0
      · have hkl : a.toNat % l.length < l.length := Nat.mod_lt _ hpos
        have e1 : a % (l.length : Int) = ((a.toNat % l.length : Nat) : Int) := by
          rw [Int.natCast_emod, Int.toNat_of_nonneg ha0]
        have e2 : a.tmod (l.length : Int) = ((a.toNat % l.length : Nat) : Int) := by
          rw [Int.tmod_eq_emod_of_nonneg ha0, e1]
        generalize a.toNat % l.length = k at *
        obtain ⟨b, o, rfl, hb, c0, c1, c2, c3, c4, c5, c6, c7⟩ := hA.off hkl
        have h1 := acc_first hk0 (List.getElem_mem hkl)
        have h2 := acc_again (x := l[k]) hk0
        generalize hxe : l[k] = x at *
        have H1 := Lib.hid h1
        have H2 := Lib.hid h2
        have Hx := Lib.hid hxe
        have Hk0 := Lib.hid hk0
        clear h1 h2 hxe hk0
        go_enter Try.func7, Try.ntmps7
        go_wp2_with fail
        refine (great_any _ c l w hmx).mono ?_
        rintro e w1 ⟨rfl, rfl⟩
        rw [decide_eq_false hg]
        clear hg
        go_wp2_with fail
        refine (check_any _ c l w hA hm6).mono ?_
        rintro e w1 ⟨rfl, hb1⟩
        rw [Hk0.out]
        replace c0 := hb1.cell_some c0
        replace c1 := hb1.cell_some c1
        replace c2 := hb1.cell_some c2
        replace c3 := hb1.cell_some c3
        replace c4 := hb1.cell_some c4
        replace c5 := hb1.cell_some c5
        replace c6 := hb1.cell_some c6
        replace c7 := hb1.cell_some c7
        go_wp2_with fail
        obtain ⟨W, hW, hB, hk, hlt⟩ := box1 w1 x.cells.toArray 26
        have hK := hk
        simp only [Off.cells] at hW hk
        rw [hW]
        clear hW c0 c1 c2 c3 c4 c5 c6 c7
        have hE := hb1.trans hB
        have s1 := signal_any _ c l x.id x.con true W (hA.ext hE) hm6
        rw [H1.out.1, H1.out.2.1, H1.out.2.2] at s1
        refine s1.mono ?_
        clear s1
        rintro e w2 ⟨A2, c2, rfl, hR2, hb2⟩
        have hK2 := hK.ext hb2
        go_wp2_with fail
        refine (clone_any _ c l w2 (hA.ext (hE.trans hb2)) hm6).mono ?_
        rintro e w3 ⟨v3, rfl, hv3, hb3⟩
        have hk4 := (hk.ext hb2).ext hb3
        go_wp2_with fail
        refine (deleteFunc_any v3 l _ _ _ w2 w3 w2.heap.size hv3 hm6 hb3 (Nat.le_refl _) (pred_acc hK2)).mono ?_
        rintro e w4 ⟨A4, c4, rfl, hR4, hb4⟩
        have hk5 := (hk.ext hb2).ext hb4
        have hc := hk5.cell
        have hl5 := hk5.lt
        have hfl : (l.filter fun o => !idEq o.id x.id).length ≤ 1000000 := Nat.le_trans (List.length_filter_le _ _) hm6
        go_wp2_with fail
        have s2 := signal_any A2 c2 _ x.id x.con true w4 (hR2.ext hb4) hfl
        rw [H2.out.1, H2.out.2.1, H2.out.2.2] at s2
        refine s2.mono ?_
        clear s2
        rintro e w5 ⟨A5, c5, rfl, hR5, hb5⟩
        go_wp2_with fail
        refine (same_ex A2 A4 c2 c4 _ w5 ((hR2.ext hb4).ext hb5) (hR4.ext hb5) hfl).mono ?_
        rintro e w6 ⟨rfl, hb6⟩
        go_wp2_with fail
        refine (same_ex A5 A4 c5 c4 _ w6 (hR5.ext hb6) ((hR4.ext hb5).ext hb6) hfl).mono ?_
        rintro e w7 ⟨rfl, hb7⟩
        go_wp2_with fail
        refine (awake_any _).mono ?_
        rintro e w8 ⟨rfl, hb8⟩
        go_wp2
        go_ret
        exact ⟨rfl, (hE.trans hb2).trans (hb4.trans (hb5.trans (hb6.trans (hb7.trans hb8))))⟩
      · have hd2 : (chk l != 0) = true := by simpa using hk0
        have Hk0 := Lib.hid hk0
        clear hk0
        go_enter Try.func7, Try.ntmps7
        go_wp2_with fail
        refine (great_any A c l w hmx).mono ?_
        rintro e w1 ⟨rfl, rfl⟩
        rw [decide_eq_false hg]
        go_wp2_with fail
        refine (check_any A c l w hA hm6).mono ?_
        rintro e w1 ⟨rfl, hb1⟩
        go_wp2_with fail
        refine (awake_any _).mono ?_
        rintro e w2 ⟨rfl, hb2⟩
        go_wp2
        go_ret
        exact ⟨rfl, hb1.trans hb2⟩

end Go.Proofs.Ytlhdmhgbclfneaa
