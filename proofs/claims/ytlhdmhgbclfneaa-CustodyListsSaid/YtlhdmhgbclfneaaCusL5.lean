/- Layer 44 (custody): the walk of CustodyLists. -/
import Derived.Test.YtlhdmhgbclfneaaCusL4
namespace Go.Proofs.Ytlhdmhgbclfneaa
set_option linter.unusedVariables false
open Go.RowKit

theorem offEq_iff {x y : Off} : offEq x y = true ↔ x = y := by
  obtain ⟨⟨a, b, c, d, e⟩, f, g, h⟩ := x
  obtain ⟨⟨a', b', c', d', e'⟩, f', g', h'⟩ := y
  simp [offEq, idEq, and_assoc]
theorem any_offEq {l : List Off} {p : Off → Bool} {y : Off} (hy : y ∈ l) : (l.filter p).any (fun o => offEq y o) = p y := by
  rw [Bool.eq_iff_iff, List.any_eq_true]
  constructor
  · rintro ⟨o, ho, h⟩
    rw [offEq_iff] at h
    subst h
    exact (List.mem_filter.1 ho).2
  · intro h
    exact ⟨y, List.mem_filter.2 ⟨hy, h⟩, offEq_iff.2 rfl⟩
theorem filter_len (p : Off → Bool) : ∀ m : List Off, (m.filter p).length + (m.filter (fun x => !p x)).length = m.length
  | [] => rfl
  | y :: m => by
    have ih := filter_len p m
    cases hy : p y <;> simp [List.filter_cons, hy] <;> omega
theorem sig_sub {l : List Off} {x : Bid} {con : Int} {acc : Bool} (h : chk l = 0) : chk (sigL l x con acc) = 0 ∧ 1 ≤ sigN l x con acc ∧ sigN l x con acc ≤ 3 ∧ sigE l = 0 := by
  refine ⟨?_, ?_, ?_, ?_⟩
  · unfold sigL; rw [if_pos h]
    split
    · exact h
    · split
      · exact chk_sub h List.filter_sublist
      · exact chk_sub h List.filter_sublist
  · unfold sigN; rw [if_pos h]; repeat' split
    all_goals omega
  · unfold sigN; rw [if_pos h]; repeat' split
    all_goals omega
  · unfold sigE; rw [if_pos h]
theorem due_sub {l : List Off} {t : Int} (h : chk l = 0) : dueL l t = l.filter (lateO t) ∧ dueM l t = l.filter (fun o => !lateO t o) ∧ chk (dueL l t) = 0 ∧ chk (dueM l t) = 0 ∧ (dueL l t).length + (dueM l t).length = l.length := by
  have e1 : dueL l t = l.filter (lateO t) := by rw [dueL_eq, if_pos h]
  have e2 : dueM l t = l.filter (fun o => !lateO t o) := by rw [dueM_eq, if_pos h]
  refine ⟨e1, e2, ?_, ?_, ?_⟩
  · rw [e1]; exact chk_sub h List.filter_sublist
  · rw [e2]; exact chk_sub h List.filter_sublist
  · rw [e1, e2]; exact filter_len _ _

set_option maxRecDepth 100000 in
set_option maxHeartbeats 4000000 in
theorem lists_walk (A : Option Addr) (c : Nat) (l : List Off) (x : Off) (acc : Bool) (t : Int) (w : World) (hA : Rd EOff w A l) (hcap : l.length ≤ c) (hmc : c ≤ maxLen) :
    Calls Try.prog 8 #[.slice A l.length c, x.val, .bool acc, .int .i64 t] w fun e w' => e = .returned (.bool true) ∧ Ext w w' := by
  obtain ⟨W, hW, hB, hk, hlt⟩ := box1 w x.cells.toArray 26
  have hmx : l.length ≤ 9223372036854775807 := by unfold maxLen at hmc; omega
  by_cases hg : 70 < l.length
  · simp only [Off.cells] at hW hk
    unfold Off.val
    go_enter Try.func8, Try.ntmps8
    go_wp2_with fail
    clear hW
    refine (great_any A c l W hmx).mono ?_
    rintro e w1 ⟨rfl, rfl⟩
    rw [decide_eq_true hg]
    go_wp2_with fail
    refine (awake_any _).mono ?_
    rintro e w2 ⟨rfl, hb2⟩
    go_wp2
    go_ret
    exact ⟨rfl, hB.trans hb2⟩
  · have hm6 : l.length ≤ 1000000 := by omega
    have hml := begL_le l x.id x.con x.due (by omega)
    simp only [Off.cells] at hW hk
    unfold Off.val
    go_enter Try.func8, Try.ntmps8
    go_wp2_with fail
    clear hW
    refine (great_any A c l W hmx).mono ?_
    rintro e w1 ⟨rfl, rfl⟩
    rw [decide_eq_false hg]
    have hc := hk.cell
    have hc0 := hk.lt
    clear hg
    go_wp2_with fail
    refine (begin_any A c l x.id x.con x.due W (hA.ext hB) hm6).mono ?_
    rintro e w2 ⟨A2, c2, rfl, hR2, hb2⟩
    have hk2 := hk.ext hb2
    replace hc := hk2.cell
    replace hc0 := hk2.lt
    have hE2 := hB.trans hb2
    by_cases hk0 : chk l = 0
    · have HS := Lib.hid (sig_sub (x := x.id) (con := x.con) (acc := acc) hk0)
      have HD := Lib.hid (due_sub (t := t) hk0)
      have Hk0 := Lib.hid hk0
      clear hk0
      have hsl := sigL_le l x.id x.con acc
      have hdl := dueL_le l t
      have hdm := dueM_le l t
      have hsum : (((dueL l t).length : Int) + ((dueM l t).length : Int) != (l.length : Int)) = false := by
        have := HD.out.2.2.2.2
        simp only [bne_eq_false_iff_eq]; omega
      have hn1 := HS.out.2.1
      have hn2 := HS.out.2.2.1
      by_cases hE : begE l x.id x.con x.due = 0
      · have hbl := Lib.hid (begL_chk hE)
        have hln : (((begL l x.id x.con x.due).length : Int) != (l.length : Int) + 1) = false := by
          have := begL_len hE
          simp only [bne_eq_false_iff_eq]; omega
        rw [hE]
        clear hE
        go_wp2_with fail
        refine (check_any A2 c2 (begL l x.id x.con x.due) w2 hR2 (by omega)).mono ?_
        rintro e w3 ⟨rfl, hb3⟩
        rw [hbl.out]
        have hk3 := hk2.ext hb3
        replace hc := hk3.cell
        replace hc0 := hk3.lt
        have hE3 := hE2.trans hb3
        go_wp2_with fail
        refine (signal_any A c l x.id x.con acc _ (hA.ext hE3) hm6).mono ?_
        rintro e w4 ⟨A4, c4, rfl, hR4, hb4⟩
        rw [HS.out.2.2.2]
        go_wp2_with fail
        refine (due_any A c l t w4 (hA.ext (hE3.trans hb4)) hm6).mono ?_
        rintro e w5 ⟨A5, p5, A6, p6, rfl, hR5, hR6, hb5⟩
        rw [HS.out.2.2.2]
        go_wp2_with fail
        refine (check_any A4 c4 (sigL l x.id x.con acc) w5 (hR4.ext hb5) (by omega)).mono ?_
        rintro e w6 ⟨rfl, hb6⟩
        rw [HS.out.1]
        go_wp2_with fail
        refine (check_any A5 p5 (dueL l t) w6 (hR5.ext hb6) (by omega)).mono ?_
        rintro e w7 ⟨rfl, hb7⟩
        rw [HD.out.2.2.1]
        go_wp2_with fail
        refine (check_any A6 p6 (dueM l t) w7 ((hR6.ext hb6).ext hb7) (by omega)).mono ?_
        rintro e w8 ⟨rfl, hb8⟩
        rw [HD.out.2.2.2.1]
        have hE8 := (hE3.trans hb4).trans (hb5.trans (hb6.trans (hb7.trans hb8)))
        have hR5' := (hR5.ext hb6).ext (hb7.trans hb8)
        have hR6' := (hR6.ext hb6).ext (hb7.trans hb8)
        clear hc hc0
        go_wp2
        go_loopw [130] (fun i wr => ∃ k : Nat, k ≤ l.length ∧ i = .int .i64 k ∧ Ext w8 wr) (fun i _ => l.length - (intOf i).toNat)
        case atStart => exact ⟨0, Nat.zero_le _, rfl, Ext.refl _⟩
        case round =>
          obtain ⟨k, hkl, rfl, hN⟩ := hrel
          by_cases hlt : k < l.length
          · obtain ⟨b, o, rfl, hb, c0, c1, c2, c3, c4, c5, c6, c7⟩ := ((hA.ext hE8).ext hN).off hlt
            have a1 := any_offEq (p := lateO t) (List.getElem_mem hlt)
            have a2 := any_offEq (p := fun o => !lateO t o) (List.getElem_mem hlt)
            rw [← HD.out.1] at a1
            rw [← HD.out.2.1] at a2
            generalize l[k] = y at *
            have A1 := Lib.hid a1
            have A2 := Lib.hid a2
            clear a1 a2
            by_cases hd9 : y.due ≤ t
            · have hl9 : lateO t y = true := by simp [lateO, hd9]
              rw [hl9] at A1 A2
              clear hl9
              go_wp2_with fail
              obtain ⟨W9, hW9, hB9, hk9, hlt9⟩ := box1 wr y.cells.toArray 26
              simp only [Off.cells] at hW9 hk9
              rw [hW9]
              clear hW9
              have q1 := contains_any A5 p5 (dueL l t) y W9 ((hR5'.ext hN).ext hB9) (by omega)
              rw [A1.out] at q1
              refine q1.mono ?_
              clear q1
              rintro e w9 ⟨rfl, hb9⟩
              have hk10 := hk9.ext hb9
              have hc := hk10.cell
              have hlt10 := hk10.lt
              go_wp2_with fail
              have q2 := contains_any A6 p6 (dueM l t) y w9 (((hR6'.ext hN).ext hB9).ext hb9) (by omega)
              rw [A2.out] at q2
              refine q2.mono ?_
              clear q2
              rintro e w10 ⟨rfl, hb10⟩
              go_wp2
              go_roundw
              case rel => exact ⟨k + 1, by omega, by go_num, (hN.trans hB9).trans (hb9.trans hb10)⟩
              case measure => simp [intOf]; omega
            · have hl9 : lateO t y = false := by simp [lateO, hd9]
              rw [hl9] at A1 A2
              clear hl9
              go_wp2_with fail
              obtain ⟨W9, hW9, hB9, hk9, hlt9⟩ := box1 wr y.cells.toArray 26
              simp only [Off.cells] at hW9 hk9
              rw [hW9]
              clear hW9
              have q1 := contains_any A5 p5 (dueL l t) y W9 ((hR5'.ext hN).ext hB9) (by omega)
              rw [A1.out] at q1
              refine q1.mono ?_
              clear q1
              rintro e w9 ⟨rfl, hb9⟩
              have hk10 := hk9.ext hb9
              have hc := hk10.cell
              have hlt10 := hk10.lt
              go_wp2_with fail
              have q2 := contains_any A6 p6 (dueM l t) y w9 (((hR6'.ext hN).ext hB9).ext hb9) (by omega)
              rw [A2.out] at q2
              refine q2.mono ?_
              clear q2
              rintro e w10 ⟨rfl, hb10⟩
              go_wp2
              go_roundw
              case rel => exact ⟨k + 1, by omega, by go_num, (hN.trans hB9).trans (hb9.trans hb10)⟩
              case measure => simp [intOf]; omega
          · go_wp2_with fail
            refine (awake_any _).mono ?_
            rintro e w11 ⟨rfl, hb11⟩
            go_wp2
            go_ret
            exact ⟨rfl, (hE8.trans hN).trans hb11⟩
      · have hd : (begE l x.id x.con x.due == 0) = false := by simpa using hE
        have hE3 := hE2
        clear hE
        go_wp2_with fail
        refine (signal_any A c l x.id x.con acc _ (hA.ext hE3) hm6).mono ?_
        rintro e w4 ⟨A4, c4, rfl, hR4, hb4⟩
        rw [HS.out.2.2.2]
        go_wp2_with fail
        refine (due_any A c l t w4 (hA.ext (hE3.trans hb4)) hm6).mono ?_
        rintro e w5 ⟨A5, p5, A6, p6, rfl, hR5, hR6, hb5⟩
        rw [HS.out.2.2.2]
        go_wp2_with fail
        refine (check_any A4 c4 (sigL l x.id x.con acc) w5 (hR4.ext hb5) (by omega)).mono ?_
        rintro e w6 ⟨rfl, hb6⟩
        rw [HS.out.1]
        go_wp2_with fail
        refine (check_any A5 p5 (dueL l t) w6 (hR5.ext hb6) (by omega)).mono ?_
        rintro e w7 ⟨rfl, hb7⟩
        rw [HD.out.2.2.1]
        go_wp2_with fail
        refine (check_any A6 p6 (dueM l t) w7 ((hR6.ext hb6).ext hb7) (by omega)).mono ?_
        rintro e w8 ⟨rfl, hb8⟩
        rw [HD.out.2.2.2.1]
        have hE8 := (hE3.trans hb4).trans (hb5.trans (hb6.trans (hb7.trans hb8)))
        have hR5' := (hR5.ext hb6).ext (hb7.trans hb8)
        have hR6' := (hR6.ext hb6).ext (hb7.trans hb8)
        clear hc hc0
        go_wp2
        go_loopw [130] (fun i wr => ∃ k : Nat, k ≤ l.length ∧ i = .int .i64 k ∧ Ext w8 wr) (fun i _ => l.length - (intOf i).toNat)
        case atStart => exact ⟨0, Nat.zero_le _, rfl, Ext.refl _⟩
        case round =>
          obtain ⟨k, hkl, rfl, hN⟩ := hrel
          by_cases hlt : k < l.length
          · obtain ⟨b, o, rfl, hb, c0, c1, c2, c3, c4, c5, c6, c7⟩ := ((hA.ext hE8).ext hN).off hlt
            have a1 := any_offEq (p := lateO t) (List.getElem_mem hlt)
            have a2 := any_offEq (p := fun o => !lateO t o) (List.getElem_mem hlt)
            rw [← HD.out.1] at a1
            rw [← HD.out.2.1] at a2
            generalize l[k] = y at *
            have A1 := Lib.hid a1
            have A2 := Lib.hid a2
            clear a1 a2
            by_cases hd9 : y.due ≤ t
            · have hl9 : lateO t y = true := by simp [lateO, hd9]
              rw [hl9] at A1 A2
              clear hl9
              go_wp2_with fail
              obtain ⟨W9, hW9, hB9, hk9, hlt9⟩ := box1 wr y.cells.toArray 26
              simp only [Off.cells] at hW9 hk9
              rw [hW9]
              clear hW9
              have q1 := contains_any A5 p5 (dueL l t) y W9 ((hR5'.ext hN).ext hB9) (by omega)
              rw [A1.out] at q1
              refine q1.mono ?_
              clear q1
              rintro e w9 ⟨rfl, hb9⟩
              have hk10 := hk9.ext hb9
              have hc := hk10.cell
              have hlt10 := hk10.lt
              go_wp2_with fail
              have q2 := contains_any A6 p6 (dueM l t) y w9 (((hR6'.ext hN).ext hB9).ext hb9) (by omega)
              rw [A2.out] at q2
              refine q2.mono ?_
              clear q2
              rintro e w10 ⟨rfl, hb10⟩
              go_wp2
              go_roundw
              case rel => exact ⟨k + 1, by omega, by go_num, (hN.trans hB9).trans (hb9.trans hb10)⟩
              case measure => simp [intOf]; omega
            · have hl9 : lateO t y = false := by simp [lateO, hd9]
              rw [hl9] at A1 A2
              clear hl9
              go_wp2_with fail
              obtain ⟨W9, hW9, hB9, hk9, hlt9⟩ := box1 wr y.cells.toArray 26
              simp only [Off.cells] at hW9 hk9
              rw [hW9]
              clear hW9
              have q1 := contains_any A5 p5 (dueL l t) y W9 ((hR5'.ext hN).ext hB9) (by omega)
              rw [A1.out] at q1
              refine q1.mono ?_
              clear q1
              rintro e w9 ⟨rfl, hb9⟩
              have hk10 := hk9.ext hb9
              have hc := hk10.cell
              have hlt10 := hk10.lt
              go_wp2_with fail
              have q2 := contains_any A6 p6 (dueM l t) y w9 (((hR6'.ext hN).ext hB9).ext hb9) (by omega)
              rw [A2.out] at q2
              refine q2.mono ?_
              clear q2
              rintro e w10 ⟨rfl, hb10⟩
              go_wp2
              go_roundw
              case rel => exact ⟨k + 1, by omega, by go_num, (hN.trans hB9).trans (hb9.trans hb10)⟩
              case measure => simp [intOf]; omega
          · go_wp2_with fail
            refine (awake_any _).mono ?_
            rintro e w11 ⟨rfl, hb11⟩
            go_wp2
            go_ret
            exact ⟨rfl, (hE8.trans hN).trans hb11⟩
    · have hb := Lib.hid (show begE l x.id x.con x.due = 1 by unfold begE; rw [if_neg hk0])
      have h1 := Lib.hid (show sigL l x.id x.con acc = [] ∧ sigN l x.id x.con acc = 0 ∧ sigE l = 1 by
        refine ⟨?_, ?_, ?_⟩
        · unfold sigL; rw [if_neg hk0]
        · unfold sigN; rw [if_neg hk0]
        · unfold sigE; rw [if_neg hk0])
      have h2 := Lib.hid (show dueL l t = [] ∧ dueM l t = [] by
        constructor
        · unfold dueL; rw [if_neg hk0]
        · unfold dueM; rw [if_neg hk0])
      have hd2 : (chk l != 0) = true := by simpa using hk0
      clear hk0
      rw [hb.out]
      go_wp2_with fail
      have s1 := signal_any A c l x.id x.con acc w2 (hA.ext hE2) hm6
      rw [h1.out.1, h1.out.2.1, h1.out.2.2] at s1
      refine s1.mono ?_
      clear s1
      rintro e w3 ⟨A3, c3, rfl, hR3, hb3⟩
      go_wp2_with fail
      have s2 := due_any A c l t w3 (hA.ext (hE2.trans hb3)) hm6
      rw [h2.out.1, h2.out.2, h1.out.2.2] at s2
      refine s2.mono ?_
      clear s2
      rintro e w4 ⟨A4, c4, A5, c5, rfl, hR4, hR5, hb4⟩
      have hE4 := (hE2.trans hb3).trans hb4
      go_wp2_with fail
      refine (check_any A c l w4 (hA.ext hE4) hm6).mono ?_
      rintro e w5 ⟨rfl, hb5⟩
      go_wp2_with fail
      refine (awake_any _).mono ?_
      rintro e w6 ⟨rfl, hb6⟩
      go_wp2
      go_ret
      exact ⟨rfl, hE4.trans (hb5.trans hb6)⟩

end Go.Proofs.Ytlhdmhgbclfneaa
